/- Lemmas that the proof needs, part 15. -/
import Derived.Test.YtmafibbnojdpjaaWKept
import Derived.Deep.RegionHeld3
import Derived.Test.YtmafibbnojdpjaaRb1
import Derived.Test.YtmafibbnojdpjaaRb2
import Derived.Test.YtmafibbnojdpjaaRb3
import Derived.Test.YtmafibbnojdpjaaRb4
import Derived.Test.YtmafibbnojdpjaaRb5
import Derived.Test.YtmafibbnojdpjaaRb6
import Derived.Test.YtmafibbnojdpjaaRb7
import Derived.Test.YtmafibbnojdpjaaRb8
import Derived.Test.YtmafibbnojdpjaaRb9
import Derived.Test.YtmafibbnojdpjaaRb10
import Derived.Test.YtmafibbnojdpjaaRb11
import Derived.Test.YtmafibbnojdpjaaRb12
import Derived.Test.YtmafibbnojdpjaaRb13
import Derived.Test.YtmafibbnojdpjaaRb14
section
set_option linter.unusedVariables false
set_option maxRecDepth 100000
set_option linter.unusedSimpArgs false
namespace Go.Proofs.Ytmafibbnojdpjaa.St
open Go.Proofs.Ytmafibbnojdpjaa.Tr Go.RowKit Go.Proofs.YtmafibbnojdpjaaW.PrintWords Go.Proofs.YtmafibbnojdpjaaW.PrintLast Go.Proofs.YtmafibbnojdpjaaW.PrintMore Go.Proofs.Ytmafibbnojdpjaa.P
/-- a write, as the encoding's law has it -/
def toR (x : Wr) : RecP.Wr := ⟨x.f0.data.toList, x.f1.data.toList, x.f2⟩
theorem map_toR (ws : List Wr) : (ws.map toR).map RecEv.toS = ws := by
  rw [List.map_map]
  have : ∀ x ∈ ws, (RecEv.toS ∘ toR) x = x := fun x _ => (RecEv.toS_of x).symm
  rw [List.map_congr_left this, List.map_id']
def encW (ws : List Wr) : List UInt8 := RecP.writesE (ws.map toR)
def encC (c : Cm) : List UInt8 := RecP.commitE c.f0.toNat c.f1.toNat (c.f2.map toR)
def encS (q : Int) (ws : List Wr) (cs : List Cm) : List UInt8 := RecP.numE q.toNat ++ encW ws ++ RecP.numE cs.length ++ cs.flatMap encC
theorem c_kept {w W : World} {A : Option Addr} {n : Nat} {ws : List Wr} (h : Kd.C k31 w A n ws) (hs : w.heap.size ≤ W.heap.size) (hk : ∀ k, k < w.heap.size → W.heap[k]? = w.heap[k]?) : Kd.C k31 W A n ws :=
  Kd.C_below (w1 := { W with os := w.os, tape := w.tape, output := w.output }) h ⟨rfl, rfl, rfl, hs, hk⟩
/-- bytes that are being laid: a row of the call's own, behind block n -/
structure Lay (w W : World) (n : Nat) (v : Value) (l : List UInt8) : Prop where
  bel : Below w.heap.size w W
  row : Kd.R (Kd.int .u8) 5 W w.heap.size (fun k => n < k) v (RecEv.I l)
variable {w W : World} {n : Nat} {v : Value} {l : List UInt8}
def LayPost (w W : World) (n : Nat) (l : List UInt8) (e : Ending) (W' : World) : Prop := ∃ v', e = .returned v' ∧ Lay w W' n v' l ∧ Kept W W' (fun k => n < k)
theorem lay_post {l : List UInt8} (hn : n < W.heap.size) {f : World → Ending → World → Prop} {num : Nat} {args : Array Value}
    (h : Calls Try.prog num args W fun e w' => ∃ v0 : Value, e = .returned v0 ∧ Kd.R (Kd.int .u8) 5 w' w.heap.size (fun k => n < k ∨ W.heap.size ≤ k) v0 (RecEv.I l) ∧ Below w.heap.size w w' ∧ Kept W w' (fun k => n < k)) : Calls Try.prog num args W (LayPost w W n l) := by
  refine h.mono ?_
  rintro e w' ⟨v0, rfl, h1, h2, h3⟩
  exact ⟨v0, rfl, ⟨h2, Kd.R_mono h1 (fun k hk => by rcases hk with hk | hk <;> omega)⟩, h3⟩
theorem lay_num (h : Lay w W n v l) (hn : n < W.heap.size) (a : Nat) (ha : a < 9223372036854775808) (hl : l.length < 140737488355000) : Calls Try.prog 62 #[v, .int .i64 (a : Int)] W (LayPost w W n (l ++ RecP.numE a)) := by
  obtain ⟨k, hk⟩ := (RecEv.num_ev l a hl ha).rounds
  exact lay_post (f := fun _ _ _ => True) hn (octet_Num.calls k (fun k => n < k) v _ a _ w W h.bel h.row hk)
theorem lay_writes (h : Lay w W n v l) (hn : n < W.heap.size) (hnw : w.heap.size ≤ n) (ws : List Wr) (A : Option Addr) (c : Nat) (hr : Kd.C k31 w A ws.length ws) (hc : ws.length ≤ c) (hl : l.length + RecEv.bulk (ws.map toR) < 140737488353900) (hw : ws.length < 9223372036854775808) : Calls Try.prog 61 #[v, .slice A ws.length c] W (LayPost w W n (l ++ encW ws)) := by
  obtain ⟨k, hk⟩ := (RecEv.writes_ev l (ws.map toR) hl (by simpa using hw)).rounds
  rw [map_toR] at hk
  refine lay_post (f := fun _ _ _ => True) hn (rec_writes.calls k (fun k => n < k) v _ A c ws _ w W h.bel h.row (fun W_ hK => ?_) hc hk)
  exact c_kept hr (Nat.le_trans h.bel.size hK.1) (fun k hk => (hK.2 k (Nat.lt_of_lt_of_le hk h.bel.size) (by omega)).trans (h.bel.block k hk))
theorem lay_commit (h : Lay w W n v l) (hn : n < W.heap.size) (hnw : w.heap.size ≤ n) (c : Cm) (A : Option Addr) (cap : Nat) (hr : Kd.C k31 w A c.f2.length c.f2) (hc : c.f2.length ≤ cap) (hl : l.length + RecEv.bulk (c.f2.map toR) < 140737488353800) (hw : c.f2.length < 9223372036854775808) (h0 : 0 ≤ c.f0) (h1 : 0 ≤ c.f1) (h2 : c.f0 < 9223372036854775808) (h3 : c.f1 < 9223372036854775808) :
    Calls Try.prog 63 #[v, .agg #[.int .i64 c.f0, .int .i64 c.f1, .slice A c.f2.length cap]] W (LayPost w W n (l ++ encC c)) := by
  obtain ⟨k, hk⟩ := (RecEv.commit_ev l c.f0.toNat c.f1.toNat (c.f2.map toR) hl (by simpa using hw) (by omega) (by omega)).rounds
  rw [map_toR, show ((c.f0.toNat : Nat) : Int) = c.f0 by omega, show ((c.f1.toNat : Nat) : Int) = c.f1 by omega] at hk
  refine lay_post (f := fun _ _ _ => True) hn (rec_commit.calls k (fun k => n < k) v _ c.f0 c.f1 A cap c.f2 _ w W h.bel h.row (fun W_ hK => ?_) hc hk)
  exact c_kept hr (Nat.le_trans h.bel.size hK.1) (fun k hk => (hK.2 k (Nat.lt_of_lt_of_le hk h.bel.size) (by omega)).trans (h.bel.block k hk))
theorem bulk_right {ws : List Wr} (h : rises ws = true) : RecEv.bulk (ws.map toR) ≤ ws.length * 4516 := by
  have hk : ∀ x ∈ ws, x.f0.size ≤ 400 ∧ x.f1.size ≤ 4096 := fun x hx => by
    obtain ⟨i, hi, rfl⟩ := List.mem_iff_getElem.1 hx
    have := rises_iff.1 h i hi
    unfold okAt okW at this
    simp only [Bool.and_eq_true, decide_eq_true_eq] at this
    rw [wA_eq hi] at this
    exact ⟨this.1.1.1.2, this.1.1.2⟩
  clear h
  induction ws with
  | nil => simp [RecEv.bulk]
  | cons x ws ih =>
    have h1 := hk x (List.mem_cons_self ..)
    have h2 := ih (fun y hy => hk y (List.mem_cons_of_mem _ hy))
    rw [List.map_cons, RecEv.bulk_cons, List.length_cons]
    have h3 : (toR x).key.length = x.f0.size := by simp [toR]
    have h4 : (toR x).val.length = x.f1.size := by simp [toR]
    rw [h3, h4]
    omega
theorem encW_len {ws : List Wr} (h : rises ws = true) (hw : ws.length < 1000000) : (encW ws).length ≤ 9 + ws.length * 4516 := by
  have hb := bulk_right h
  have h1 := RecEv.numE_length (ws.map toR).length (by simp; omega)
  have h2 := RecEv.bulk_le (ws.map toR) (fun y hy => by
    obtain ⟨x, hx, rfl⟩ := List.mem_map.1 hy
    obtain ⟨i, hi, rfl⟩ := List.mem_iff_getElem.1 hx
    have := rises_iff.1 h i hi
    unfold okAt okW at this
    simp only [Bool.and_eq_true, decide_eq_true_eq] at this
    rw [wA_eq hi] at this
    have h3 : (toR ws[i]).key.length = ws[i].f0.size := by simp [toR]
    have h4 : (toR ws[i]).val.length = ws[i].f1.size := by simp [toR]
    have := this.1.1.1.2
    have := (rises_iff.1 h i hi)
    unfold okAt okW at this
    simp only [Bool.and_eq_true, decide_eq_true_eq] at this
    rw [wA_eq hi] at this
    have := this.1.1.2
    omega)
  unfold encW RecP.writesE
  rw [List.length_append]
  omega
/-- what a commit that is taken is like -/
structure Fine (c : Cm) : Prop where
  s0 : 0 ≤ c.f0
  s1 : c.f0 ≤ maxSeq
  a0 : 0 ≤ c.f1
  a1 : c.f1 ≤ maxSeq
  r : rightW c.f2 = true
theorem run_fine {cs : List Cm} : ∀ {M M' : StM}, 0 ≤ lastM M → runM M cs = some M' → ∀ c ∈ cs, Fine c := by
  induction cs with
  | nil => intro M M' _ _ c hc; cases hc
  | cons d cs ih =>
    intro M M' h0 h c hc
    have h2 : (if goodC M d = true then runM (comM M d) cs else none) = some M' := h
    cases hg : goodC M d with
    | false => rw [hg] at h2; cases h2
    | true =>
      rw [hg, if_pos rfl] at h2
      obtain ⟨g1, g2, g3, g4, g5, _⟩ := goodC_iff.1 hg
      rcases List.mem_cons.1 hc with rfl | hc
      · exact ⟨by omega, g2, g3, g4, g5⟩
      · exact ih (by rw [last_com]; omega) h2 c hc
theorem encC_len {c : Cm} (h : Fine c) : (encC c).length ≤ 1000000 ∧ c.f2.length ≤ 200 ∧ RecEv.bulk (c.f2.map toR) ≤ 1000000 := by
  have hr := h.r
  unfold rightW at hr
  rw [Bool.and_eq_true, decide_eq_true_eq] at hr
  have h1 := encW_len hr.2 (by omega)
  have h2 := bulk_right hr.2
  have h3 := RecEv.numE_length c.f0.toNat (by have := h.s1; unfold maxSeq at this; omega)
  have h4 := RecEv.numE_length c.f1.toNat (by have := h.a1; unfold maxSeq at this; omega)
  refine ⟨?_, hr.1, by omega⟩
  unfold encC RecP.commitE
  rw [List.length_append, List.length_append]
  show _ + _ + (encW c.f2).length ≤ _
  omega
theorem lay_text (h : Lay w W n v l) : (convert 61 9 v).run Try.prog W = .ok (.string (FrEv.B l)) W := by
  obtain ⟨A, c, rfl, _, hC⟩ := Kd.R_reads h.row
  rw [← RecEv.I_str]
  exact Kd.C_string Try.underlying61 Try.underlying5 Try.underlying9 hC
set_option maxHeartbeats 8000000 in
theorem enc_bad (q : Int) (ws : List Wr) (cs : List Cm) (A1 A2 : Option Addr) (c1 c2 : Nat) (w : World) (hr1 : Kd.C k31 w A1 ws.length ws) (hc1 : ws.length ≤ c1) (hn1 : ws.length ≤ 1000)
    (hr2 : Kd.C k28 w A2 cs.length cs) (hc2 : cs.length ≤ c2) (hn2 : cs.length ≤ 1000) (hwl : ∀ i, i < cs.length → (cA cs i).f2.length < 4611686018427387904) (hM : stateM q ws cs = none) :
    Calls Try.prog 24 #[.agg #[.int .i64 q, .slice A1 ws.length c1, .slice A2 cs.length c2]] w fun e w' => e = .returned (.tuple #[.string ⟨#[]⟩, .int .i64 1]) ∧ Below w.heap.size w w' := by
  have hb0 : Below w.heap.size w (w.alloc (.cells #[.int .i64 q, .slice A1 ws.length c1, .slice A2 cs.length c2] 25)) := below_alloc (Below.refl _ _) _
  have HST := Aside0.mk (state_any q ws cs A1 A2 c1 c2 _ (Kd.C_below hr1 hb0) hc1 hn1 (Kd.C_below hr2 hb0) hc2 hn2 hwl)
  have HB0 := Aside0.mk hb0
  obtain ⟨x0, x1, x2⟩ := three_new w 25 (.int .i64 q) (.slice A1 ws.length c1) (.slice A2 cs.length c2)
  clear hr1 hr2 hwl hb0
  go_enter Try.func24, Try.ntmps24
  go_wp2_with (first | (go_at_call 23; refine HST.out.mono ?_; rintro e w1 ⟨hb, h1, _⟩; obtain rfl := h1 hM; have HB1 := Aside0.mk (below_step HB0.out hb); clear hb h1))
  go_ret2
  exact ⟨rfl, HB1.out⟩
set_option maxHeartbeats 8000000 in
theorem enc_good (q : Int) (ws : List Wr) (cs : List Cm) (A1 A2 : Option Addr) (c1 c2 : Nat) (w : World) (hr1 : Kd.C k31 w A1 ws.length ws) (hc1 : ws.length ≤ c1) (hn1 : ws.length ≤ 1000)
    (hr2 : Kd.C k28 w A2 cs.length cs) (hc2 : cs.length ≤ c2) (hn2 : cs.length ≤ 1000) (hwl : ∀ i, i < cs.length → (cA cs i).f2.length < 4611686018427387904) (M : StM) (hM : stateM q ws cs = some M) :
    Calls Try.prog 24 #[.agg #[.int .i64 q, .slice A1 ws.length c1, .slice A2 cs.length c2]] w fun e w' => e = .returned (.tuple #[.string (FrEv.B (encS q ws cs)), .int .i64 0]) ∧ Below w.heap.size w w' := by
  have hb0 : Below w.heap.size w (w.alloc (.cells #[.int .i64 q, .slice A1 ws.length c1, .slice A2 cs.length c2] 25)) := below_alloc (Below.refl _ _) _
  have HST := Aside0.mk (state_any q ws cs A1 A2 c1 c2 _ (Kd.C_below hr1 hb0) hc1 hn1 (Kd.C_below hr2 hb0) hc2 hn2 hwl)
  have HB0 := Aside0.mk hb0
  have HR1 := Aside0.mk hr1
  have HR2 := Aside0.mk hr2
  obtain ⟨x0, x1, x2⟩ := three_new w 25 (.int .i64 q) (.slice A1 ws.length c1) (.slice A2 cs.length c2)
  have hzb : (w.alloc (.cells #[.int .i64 q, .slice A1 ws.length c1, .slice A2 cs.length c2] 25)).heap.size = w.heap.size + 1 := World.size_alloc _ _
  have hok : newOk q ws = true := by
    cases h : newOk q ws with
    | true => rfl
    | false => unfold stateM at hM; rw [h] at hM; cases hM
  have hrun : runM (newM q ws) cs = some M := by unfold stateM at hM; rw [hok] at hM; exact hM
  have hok2 := hok
  unfold newOk at hok2
  simp only [Bool.and_eq_true, decide_eq_true_eq] at hok2
  obtain ⟨⟨⟨q0, q1⟩, q2⟩, _⟩ := hok2
  have HFN : Aside0 (∀ i, i < cs.length → Fine (cA cs i)) := ⟨fun i hi => run_fine (inv_new hok).last0 hrun _ (by rw [cA_eq hi]; exact List.getElem_mem _)⟩
  have hbk := bulk_right q2
  have hlw := encW_len q2 (by omega)
  unfold maxSeq at q1
  obtain ⟨qn, hqn⟩ : ∃ qn : Nat, q = (qn : Int) := ⟨q.toNat, by omega⟩
  subst hqn
  have hl1 := RecEv.numE_length qn (by omega)
  have HE0 : Aside0 (encS (qn : Int) ws cs = RecP.numE qn ++ encW ws ++ RecP.numE cs.length ++ cs.flatMap encC) := ⟨by unfold encS; rw [Int.toNat_natCast]⟩
  have hl2 := RecEv.numE_length cs.length (by omega)
  have HSZ : Aside0 ((RecP.numE qn).length ≤ 9 ∧ (encW ws).length ≤ 9 + ws.length * 4516 ∧ (RecP.numE cs.length).length ≤ 9 ∧ RecEv.bulk (ws.map toR) ≤ ws.length * 4516) := ⟨⟨hl1, hlw, hl2, hbk⟩⟩
  clear hr1 hr2 hwl hb0 hrun hok q0 q2 hbk hlw hl1 hl2
  go_enter Try.func24, Try.ntmps24
  go_wp2_with (first | (go_at_call 23; refine HST.out.mono ?_; rintro e w1 ⟨hb, _, h1⟩; obtain ⟨s, rfl, _, _⟩ := h1 M hM; have x0 := up hb x0; have x1 := up hb x1; have x2 := up hb x2; have HB1 := Aside0.mk (below_step HB0.out hb); have hz1 := hb.size; clear hb h1))
  have hz2 : w.heap.size < w1.heap.size := by omega
  have L0 : Aside0 (Lay w w1.drew w.heap.size (.slice none 0 0) []) := ⟨⟨below_drew1 HB1.out, Kd.R_nil _ _ _ _ _⟩⟩
  have S0 : Three w.heap.size (.int .i64 (qn : Int)) (.slice A1 ws.length c1) (.slice A2 cs.length c2) w1.drew := (show Three w.heap.size (.int .i64 (qn : Int)) (.slice A1 ws.length c1) (.slice A2 cs.length c2) w1 from ⟨x0, x1, x2⟩).up (below_drew1 (Below.refl _ _))
  clear HST HB0
  go_region_held3 (fun W : World => W.cell? ⟨w.heap.size, 0, none⟩ = some (.int .i64 (qn : Int)) ∧ W.cell? ⟨w.heap.size, 1, none⟩ = some (.slice A1 ws.length c1) ∧ W.cell? ⟨w.heap.size, 2, none⟩ = some (.slice A2 cs.length c2)) (first | exact S0 | exact S3 | exact S2) (first
    | (go_at_call 62; refine (lay_num L0.out hz2 qn (by omega) (by simp)).mono ?_; rintro e w2 ⟨v2, rfl, hl2, hk2⟩
       have S2 := S0.kept (hk2.2 w.heap.size hz2 (Nat.lt_irrefl _))
       have L2 := Aside0.mk hl2
       have hz3 : w.heap.size < w2.heap.size := Nat.lt_of_lt_of_le hz2 hk2.1
       clear hl2 hk2)
    | (go_at_call 61; refine (lay_writes L2.out hz3 (Nat.le_refl _) ws A1 c1 HR1.out hc1 (by have := HSZ.out; simp only [List.nil_append]; omega) (by omega)).mono ?_; rintro e w3 ⟨v3, rfl, hl3, hk3⟩
       have S3 := S2.kept (hk3.2 w.heap.size hz3 (Nat.lt_irrefl _))
       have L3 := Aside0.mk hl3
       have hz4 : w.heap.size < w3.heap.size := Nat.lt_of_lt_of_le hz3 hk3.1
       clear hl3 hk3))
  obtain ⟨y0, y1, y2⟩ := S3
  go_wp2_with (first
    | (go_at_call 62; refine (lay_num L3.out hz4 cs.length (by omega) (by have := HSZ.out; simp only [List.nil_append, List.length_append]; omega)).mono ?_; rintro e w4 ⟨v4, rfl, hl4, hk4⟩
       have y2 := cell_kept y2 hk4 (Nat.lt_irrefl _)
       have L4 := Aside0.mk hl4
       have hz5 : w.heap.size < w4.heap.size := Nat.lt_of_lt_of_le hz4 hk4.1
       clear hl4 hk4))
  have L5 : Aside0 (Lay w w4 w.heap.size v4 (RecP.numE qn ++ encW ws ++ RecP.numE cs.length ++ (cs.take 0).flatMap encC)) := ⟨by have := L4.out; simpa using this⟩
  have HZ5 := Aside0.mk hz5
  clear S0 S2 x0 x1 x2 y0 y1 L0 L2 L3 L4 HB1 hz1 hz2 hz3 hz4 hz5
  go_loopg [6, 30] (cs.length + 1) (fun kq v6 v30 wq => ∃ i : Nat, v30 = .int .i64 (i : Int) ∧ i ≤ cs.length ∧ cs.length - i < kq ∧ Aside0 (Lay w wq w.heap.size v6 (RecP.numE qn ++ encW ws ++ RecP.numE cs.length ++ (cs.take i).flatMap encC)) ∧ Aside0 (w.heap.size < wq.heap.size) ∧ Aside0 (((cs.take i).flatMap encC).length ≤ i * 1000000))
  case atStart => exact ⟨0, rfl, Nat.zero_le _, by omega, L5, HZ5, ⟨by simp⟩⟩
  case round =>
    clear L5 HZ5
    obtain ⟨i, rfl, hi, hk, HL, HZ, HLL⟩ := hrel
    have z0 : (0 : Int) ≤ (i : Int) := by omega
    by_cases hlt : i < cs.length
    · have z1 : (i : Int) < (cs.length : Int) := by omega
      obtain ⟨ad5, A5, c5, eA, f0, f1, f2, f3, f4⟩ := at_T28 (Kd.C_below HR2.out HL.out.bel) (i : Int) z0 z1
      obtain ⟨ad6, A6, c6, eA6, g0, g1, g2, g3, g4⟩ := at_T28 HR2.out (i : Int) z0 z1
      rw [rd_cA, Int.toNat_natCast] at f0 f1 f2 g2
      rw [rd_cA] at f3 f4 g3 g4
      rw [eA] at eA6
      cases eA6
      have hcell := up HL.out.bel g2
      rw [f2] at hcell
      cases hcell
      subst eA
      have hf := HFN.out i hlt
      have he := encC_len hf
      have hb2 : Below w.heap.size w (wr.alloc (.cells #[.int .i64 (cA cs i).f0, .int .i64 (cA cs i).f1, .slice A5 (cA cs i).f2.length c5] 28)) := HL.out.bel.alloc (Nat.le_of_lt HZ.out) _
      have L6 : Aside0 (Lay w (wr.alloc (.cells #[.int .i64 (cA cs i).f0, .int .i64 (cA cs i).f1, .slice A5 (cA cs i).f2.length c5] 28)) w.heap.size u6 (RecP.numE qn ++ encW ws ++ RecP.numE cs.length ++ (cs.take i).flatMap encC)) := ⟨⟨hb2, Kd.R_below HL.out.row (below_alloc (Below.refl _ _) _)⟩⟩
      have HCL := Aside0.mk (lay_commit L6.out (by rw [World.size_alloc]; exact Nat.lt_succ_of_lt HZ.out) (Nat.le_refl _) (cA cs i) A5 c5 g4 g3 (by have h1 := HSZ.out; have h2 := HLL.out; simp only [List.length_append]; omega) (by omega) hf.s0 hf.a0 (by have := hf.s1; unfold maxSeq at this; omega) (by have := hf.a1; unfold maxSeq at this; omega))
      have HNX : Aside0 ((cs.take (i + 1)).flatMap encC = (cs.take i).flatMap encC ++ encC (cA cs i)) := ⟨by rw [List.take_succ_eq_append_getElem hlt, List.flatMap_append, cA_eq hlt]; simp⟩
      have HLN : Aside0 (((cs.take (i + 1)).flatMap encC).length ≤ (i + 1) * 1000000) := ⟨by rw [HNX.out, List.length_append]; have := HLL.out; omega⟩
      obtain ⟨d0, d1, d2⟩ := three_new wr 28 (.int .i64 (cA cs i).f0) (.int .i64 (cA cs i).f1) (.slice A5 (cA cs i).f2.length c5)
      clear hf he hb2 f3 f4 g0 g1 g2 g3 g4
      generalize cA cs i = x at *
      go_wp2_with (first | (go_at_call 63; refine HCL.out.mono ?_; rintro e w5 ⟨v5, rfl, hl5, hk5⟩; have L7 := Aside0.mk hl5; have HZ7 : Aside0 (w.heap.size < w5.heap.size) := ⟨Nat.lt_of_lt_of_le HZ.out (Nat.le_trans (by rw [World.size_alloc]; exact Nat.le_succ _) hk5.1)⟩; clear hl5 hk5))
      go_roundg (gk - 1)
      case measure => omega
      case rel => exact ⟨i + 1, by go_num, by omega, by omega, ⟨by rw [HNX.out, ← List.append_assoc]; exact L7.out⟩, HZ7, HLN⟩
    · have hiz : i = cs.length := by omega
      subst hiz
      clear hi hlt
      rw [List.take_length] at HL
      have hconv := lay_text HL.out
      rw [← HE0.out] at hconv
      go_wp2
      go_ret2
      exact ⟨rfl, HL.out.bel⟩
end Go.Proofs.Ytmafibbnojdpjaa.St
end
section
set_option linter.unusedVariables false
set_option maxRecDepth 100000
set_option linter.unusedSimpArgs false
namespace Go.Proofs.Ytmafibbnojdpjaa.St
open Go.Proofs.Ytmafibbnojdpjaa.Tr Go.RowKit Go.Proofs.YtmafibbnojdpjaaW.PrintWords Go.Proofs.YtmafibbnojdpjaaW.PrintLast Go.Proofs.YtmafibbnojdpjaaW.PrintMore Go.Proofs.Ytmafibbnojdpjaa.P
theorem lawr_l0 (ws : List Wr) (hn : ws.length < 4611686018427387904) : ∀ (d i : Nat), i + d = ws.length → risesTo ws i = true → Ev (fun k => mailbaglaw09_Right.l0 k ws ws (ws.length : Int) (i : Int)) (rightW ws)
  | 0, i, h, hr => by
    have e : rightW ws = decide (ws.length ≤ 200) := by unfold rightW rises; rw [show ws.length = i by omega, hr]; simp
    rw [e]
    refine Ev.step (fun k => by simp only [mailbaglaw09_Right.l0]; rfl) ?_
    refine ev_neg (by omega) ?_
    have e2 : decide ((ws.length : Int) ≤ 200) = decide (ws.length ≤ 200) := by rw [Bool.eq_iff_iff, decide_eq_true_eq, decide_eq_true_eq]; omega
    rw [e2]
    exact Ev.now _
  | d + 1, i, h, hr => by
    have hi : i < ws.length := by omega
    have bad : okAt ws i = false → rightW ws = false := fun e => by unfold rightW; rw [show rises ws = false from rises_less hi e]; simp
    have good : okAt ws i = true → Ev (fun k => mailbaglaw09_Right.l0 k ws ws (ws.length : Int) ((i + 1 : Nat) : Int)) (rightW ws) := fun e => lawr_l0 ws hn d (i + 1) (by omega) (by rw [rises_succ, hr, e]; rfl)
    refine Ev.step (fun k => by simp only [mailbaglaw09_Right.l0]; rfl) ?_
    rw [show wrap64 ((i : Int) + 1) = ((i + 1 : Nat) : Int) from by rw [w64 (by omega) (by omega)]; rfl, rd_wA]
    have hil : (i : Int) < (ws.length : Int) := by omega
    refine ev_pos hil (ev_pos (by omega) (ev_pos hil ?_))
    have tail : okW (wA ws i) = true → Ev (fun k => if (i : Int) > 0 then (if 0 ≤ wrap64 ((i : Int) - 1) then (if wrap64 ((i : Int) - 1) < (ws.length : Int) then (if ((Op.bytesLess ((rd_T31 ws (wrap64 ((i : Int) - 1))).f0).toList (wA ws i).f0.toList) = true) then (mailbaglaw09_Right.l0 k ws ws (ws.length : Int) ((i + 1 : Nat) : Int)) else (some false)) else (none)) else (none)) else (mailbaglaw09_Right.l0 k ws ws (ws.length : Int) ((i + 1 : Nat) : Int))) (rightW ws) := by
      intro hok
      by_cases c : 0 < i
      · rw [show wrap64 ((i : Int) - 1) = ((i - 1 : Nat) : Int) from by rw [w64 (by omega) (by omega)]; omega, rd_wA]
        refine ev_pos (by omega) (ev_pos (by omega) (ev_pos (by omega) ?_))
        rw [less_kl]
        by_cases e : kl (wA ws (i - 1)).f0 (wA ws i).f0
        · exact ev_pos (decide_eq_true e) (good (by unfold okAt; rw [hok, decide_eq_true e]; simp))
        · rw [bad (by unfold okAt; rw [hok, decide_eq_false e, decide_eq_false (by omega)]; rfl)]
          exact ev_neg (by simpa using e) (Ev.now _)
      · exact ev_neg (by omega) (good (by unfold okAt; rw [hok, decide_eq_true (show i = 0 by omega)]; rfl))
    have bad2 : okW (wA ws i) = false → rightW ws = false := fun e => bad (by unfold okAt; rw [e]; rfl)
    by_cases c1 : (wA ws i).f0.size = 0
    · rw [bad2 (by unfold okW; simp [c1])]
      exact ev_pos (toList_nil.2 c1) (Ev.now _)
    refine ev_neg (fun e => c1 (toList_nil.1 e)) ?_
    by_cases c2 : ¬ (wA ws i).f0.size ≤ 400
    · rw [bad2 (by unfold okW; simp [c2])]
      exact ev_pos (by omega) (Ev.now _)
    replace c2 := Decidable.not_not.1 c2
    refine ev_neg (by omega) ?_
    by_cases c3 : ¬ (wA ws i).f1.size ≤ 4096
    · rw [bad2 (by unfold okW; simp [c3])]
      exact ev_pos (by omega) (Ev.now _)
    replace c3 := Decidable.not_not.1 c3
    refine ev_neg (by omega) ?_
    cases c4 : (wA ws i).f2 with
    | false => exact ev_neg (by simp) (tail (by unfold okW; simp [c1, c2, c3, c4]))
    | true =>
      refine ev_pos rfl ?_
      by_cases c5 : (wA ws i).f1.size = 0
      · exact ev_pos (toList_nil.2 c5) (tail (by unfold okW; simp [c1, c2, c4, c5]))
      · rw [bad2 (by unfold okW; simp [c4, c5])]
        exact ev_neg (fun e => c5 (toList_nil.1 e)) (Ev.now _)
theorem lawright_any (ws : List Wr) (A : Option Addr) (c : Nat) (w : World) (hr : Kd.C k31 w A ws.length ws) (hc : ws.length ≤ c) (hn : ws.length < 4611686018427387904) :
    Calls Try.prog 22 #[.slice A ws.length c] w fun e w' => e = .returned (.bool (rightW ws)) ∧ Below w.heap.size w w' := by
  obtain ⟨k, hk⟩ := (show Ev (fun k => mailbaglaw09_Right.f k ws) (rightW ws) from lawr_l0 ws hn ws.length 0 (by omega) rfl).rounds
  exact mailbaglaw09_Right.calls k A c ws _ w hr hc hk
theorem run_hist {cs : List Cm} : ∀ {M M' : StM}, runM M cs = some M' → M'.low = M.low ∧ M'.hist = M.hist ++ cs := by
  induction cs with
  | nil => intro M M' h; cases h; exact ⟨rfl, by simp⟩
  | cons c cs ih =>
    intro M M' h
    have h2 : (if goodC M c = true then runM (comM M c) cs else none) = some M' := h
    cases hg : goodC M c with
    | false => rw [hg] at h2; cases h2
    | true =>
      rw [hg, if_pos rfl] at h2
      obtain ⟨h3, h4⟩ := ih h2
      exact ⟨h3, by rw [h4]; simp [comM]⟩
/-- is the state one, up to so many commits? -/
def gN (q : Int) (ws : List Wr) (cs : List Cm) (i : Nat) : Bool := newOk q ws && (runM (newM q ws) (cs.take i)).isSome
/-- the law's own test of a commit -/
def condN (q : Int) (cs : List Cm) (i : Nat) : Bool := decide ((cA cs i).f0 = q + 1 + i) && decide ((cA cs i).f0 ≤ maxSeq) && decide (0 ≤ (cA cs i).f1) && decide ((cA cs i).f1 ≤ maxSeq) && rightW (cA cs i).f2 && (decide (i = 0) || decide ((cA cs (i - 1)).f1 ≤ (cA cs i).f1))
theorem gN_succ {q : Int} {ws : List Wr} {cs : List Cm} {i : Nat} (hi : i < cs.length) : gN q ws cs (i + 1) = (gN q ws cs i && condN q cs i) := by
  unfold gN
  cases hn : newOk q ws with
  | false => rfl
  | true =>
    cases hr : runM (newM q ws) (cs.take i) with
    | none =>
      have : runM (newM q ws) (cs.take (i + 1)) = none := by
        rw [List.take_succ_eq_append_getElem hi, run_append, hr]
        rfl
      rw [this]
      rfl
    | some M =>
      obtain ⟨h1, h2⟩ := run_hist hr
      have h2' : M.hist = cs.take i := by rw [h2]; rfl
      have hl : M.hist.length = i := by rw [h2', List.length_take]; omega
      have hlast : lastM M = q + i := by unfold lastM; rw [h1, hl]; rfl
      have hla : lastAt M.hist = if i = 0 then 0 else (cA cs (i - 1)).f1 := by
        unfold lastAt
        by_cases h0 : i = 0
        · rw [dif_pos (by omega), if_pos h0]
        · rw [dif_neg (by omega), if_neg h0]
          simp only [h2', List.getElem_take, List.length_take]
          rw [cA_eq (by omega)]
          congr 2
          omega
      have hg : goodC M cs[i] = condN q cs i := by
        unfold goodC condN
        rw [cA_eq hi, hlast, hla, hl]
        congr 1
        · congr 5
          exact propext ⟨fun h => by omega, fun h => by omega⟩
        · by_cases h0 : i = 0
          · simp [h0]
          · simp [h0]
      rw [run_take hi hr, hg]
      cases condN q cs i <;> rfl
theorem gN_zero (q : Int) (ws : List Wr) (cs : List Cm) : gN q ws cs 0 = newOk q ws := by
  unfold gN
  rw [List.take_zero]
  cases newOk q ws <;> rfl
theorem gN_all (q : Int) (ws : List Wr) (cs : List Cm) : gN q ws cs cs.length = (stateM q ws cs).isSome := by
  unfold gN stateM
  rw [List.take_length]
  cases newOk q ws <;> rfl
/-- the test of the base, so far -/
def baseN (q : Int) (ws : List Wr) (i : Nat) : Bool := decide (0 ≤ q) && decide (q ≤ maxSeq) && rightW ws && (ws.take i).all fun x => !x.f2
theorem baseN_succ {q : Int} {ws : List Wr} {i : Nat} (hi : i < ws.length) : baseN q ws (i + 1) = (baseN q ws i && !(wA ws i).f2) := by
  unfold baseN
  rw [List.take_succ_eq_append_getElem hi, List.all_append, wA_eq hi]
  simp [Bool.and_assoc]
theorem baseN_all {q : Int} {ws : List Wr} (hl : ws.length ≤ 200) : baseN q ws ws.length = newOk q ws := by
  unfold baseN newOk rightW
  rw [List.take_length, decide_eq_true hl]
  simp
theorem head_any (w : World) : Calls Try.prog 21 #[] w fun e w' => e = .returned (.bool true) ∧ Below w.heap.size w w' := by
  obtain ⟨k, hk⟩ : ∃ k, mailbaglaw11_head.f k = some true := ⟨40, by decide +kernel⟩
  exact mailbaglaw11_head.calls k true w hk
end Go.Proofs.Ytmafibbnojdpjaa.St
end
section
set_option linter.unusedVariables false
set_option maxRecDepth 100000
set_option linter.unusedSimpArgs false
namespace Go.Proofs.Ytmafibbnojdpjaa.St
open Go.Proofs.Ytmafibbnojdpjaa.Tr Go.RowKit Go.Proofs.YtmafibbnojdpjaaW.PrintWords Go.Proofs.YtmafibbnojdpjaaW.PrintLast Go.Proofs.YtmafibbnojdpjaaW.PrintMore Go.Proofs.Ytmafibbnojdpjaa.P
set_option maxHeartbeats 16000000 in
theorem bad_neg (q : Int) (ws : List Wr) (cs : List Cm) (A1 A2 : Option Addr) (c1 c2 : Nat) (w : World) (hr1 : Kd.C k31 w A1 ws.length ws) (hc1 : ws.length ≤ c1) (hr2 : Kd.C k28 w A2 cs.length cs) (hc2 : cs.length ≤ c2)
    (hwl : ∀ i, i < cs.length → (cA cs i).f2.length < 4611686018427387904) (hn1 : ws.length ≤ 30) (hn2 : cs.length ≤ 20) (e0 : decide (0 ≤ q) = false) :
    Calls Try.prog 3 #[.agg #[.int .i64 q, .slice A1 ws.length c1, .slice A2 cs.length c2]] w fun e w' => e = .returned (.bool true) ∧ Below w.heap.size w w'  := by
  have hb0 : Below w.heap.size w (w.alloc (.cells #[.int .i64 q, .slice A1 ws.length c1, .slice A2 cs.length c2] 25)) := below_alloc (Below.refl _ _) _
  obtain ⟨x0, x1, x2⟩ := three_new w 25 (.int .i64 q) (.slice A1 ws.length c1) (.slice A2 cs.length c2)
  have HX : Aside0 (∀ W, Below (w.alloc (.cells #[.int .i64 q, .slice A1 ws.length c1, .slice A2 cs.length c2] 25)).heap.size (w.alloc (.cells #[.int .i64 q, .slice A1 ws.length c1, .slice A2 cs.length c2] 25)) W → Three w.heap.size (.int .i64 q) (.slice A1 ws.length c1) (.slice A2 cs.length c2) W ∧ Below w.heap.size w W) := ⟨fun W hW => ⟨(three_new w 25 _ _ _).up hW, below_step hb0 hW⟩⟩
  have HR1 := Aside0.mk hr1
  have HR2 := Aside0.mk hr2
  have HWL := Aside0.mk hwl
  have HST : Aside0 (∀ W, Below w.heap.size w W → Calls Try.prog 23 #[.agg #[.int .i64 q, .slice A1 ws.length c1, .slice A2 cs.length c2]] W (statePost W (stateM q ws cs))) := ⟨fun W hW => state_any q ws cs A1 A2 c1 c2 W (Kd.C_below hr1 hW) hc1 (by omega) (Kd.C_below hr2 hW) hc2 (by omega) hwl⟩
  have HEN : Aside0 (∀ W, Below w.heap.size w W → Calls Try.prog 24 #[.agg #[.int .i64 q, .slice A1 ws.length c1, .slice A2 cs.length c2]] W fun e w' => (∃ s, e = .returned (.tuple #[.string s, .int .i64 (if (stateM q ws cs).isSome = true then 0 else 1)]) ∧ ((stateM q ws cs).isSome = false → s = ⟨#[]⟩)) ∧ Below W.heap.size W w') := ⟨fun W hW => by
    cases hs : stateM q ws cs with
    | none =>
      refine (enc_bad q ws cs A1 A2 c1 c2 W (Kd.C_below hr1 hW) hc1 (by omega) (Kd.C_below hr2 hW) hc2 (by omega) hwl hs).mono ?_
      rintro e w' ⟨rfl, hb⟩
      exact ⟨⟨_, rfl, fun _ => rfl⟩, hb⟩
    | some M =>
      refine (enc_good q ws cs A1 A2 c1 c2 W (Kd.C_below hr1 hW) hc1 (by omega) (Kd.C_below hr2 hW) hc2 (by omega) hwl M hs).mono ?_
      rintro e w' ⟨rfl, hb⟩
      exact ⟨⟨_, rfl, fun h => by cases h⟩, hb⟩⟩
  have HRW : Aside0 (∀ W, Below w.heap.size w W → Calls Try.prog 22 #[.slice A1 ws.length c1] W fun e w' => e = .returned (.bool (rightW ws)) ∧ Below W.heap.size W w') := ⟨fun W hW => lawright_any ws A1 c1 W (Kd.C_below hr1 hW) hc1 (by omega)⟩
  have HBA := Aside0.mk (baseN_all (q := q) (ws := ws) (by omega))
  have HGA := Aside0.mk (gN_all q ws cs)
  have HGZ := Aside0.mk (gN_zero q ws cs)
  have HQ : Aside0 ((decide (0 ≤ q) && decide (q ≤ maxSeq)) = false) := ⟨by unfold maxSeq; rw [e0]; rfl⟩
  have HNO : Aside0 (newOk q ws = false) := ⟨by unfold newOk; rw [HQ.out]; rfl⟩
  have n1 : ¬ (30 : Int) < (ws.length : Int) := by omega
  have n2 : ¬ (20 : Int) < (cs.length : Int) := by omega
  clear hr1 hr2 hwl hb0
  go_enter Try.func3, Try.ntmps3
  go_wp2_with (first
    | (go_at_call 21; refine (head_any _).mono ?_; rintro e w1 ⟨rfl, hb⟩; have HB1 := Aside0.mk hb; have x0 := up hb x0; have x1 := up hb x1; have x2 := up hb x2; clear hb))
  go_loopg [29] (cs.length + 1) (fun kq v29 wq => ∃ i : Nat, v29 = .int .i64 (i : Int) ∧ i ≤ cs.length ∧ cs.length - i < kq ∧ Aside0 (Below (w.alloc (.cells #[.int .i64 q, .slice A1 ws.length c1, .slice A2 cs.length c2] 25)).heap.size (w.alloc (.cells #[.int .i64 q, .slice A1 ws.length c1, .slice A2 cs.length c2] 25)) wq))
  case atStart => exact ⟨0, rfl, Nat.zero_le _, by omega, HB1⟩
  case round =>
    clear HB1 x0 x1 x2
    obtain ⟨i, rfl, hi, hk, HB⟩ := hrel
    have z0 : (0 : Int) ≤ (i : Int) := by omega
    by_cases hlt : i < cs.length
    · have z1 : (i : Int) < (cs.length : Int) := by omega
      obtain ⟨ad5, A5, c5, eA, f0, f1, f2, f3, f4⟩ := at_T28 (Kd.C_below HR2.out (HX.out _ HB.out).2) (i : Int) z0 z1
      rw [rd_cA, Int.toNat_natCast] at f0 f1 f2
      subst eA
      generalize cA cs i = x at f0 f1 f2
      obtain ⟨d0, d1, d2⟩ := three_new wr 28 (.int .i64 x.f0) (.int .i64 x.f1) (.slice A5 x.f2.length c5)
      clear f3 f4
      by_cases h30 : x.f2.length ≤ 30
      · have n3 : ¬ (30 : Int) < (x.f2.length : Int) := by omega
        go_wp2
        go_roundg (gk - 1)
        case measure => omega
        case rel => exact ⟨i + 1, by go_num, by omega, by omega, ⟨below_alloc HB.out _⟩⟩
      · have n3 : (30 : Int) < (x.f2.length : Int) := by omega
        go_wp2
        go_ret
        exact ⟨rfl, (HX.out _ (below_alloc HB.out _)).2⟩
    · have hiz : i = cs.length := by omega
      subst hiz
      clear hi hlt hk
      obtain ⟨x0, x1, x2⟩ := (HX.out _ HB.out).1
      have H0 : Aside0 (baseN q ws 0 = false) := ⟨by unfold baseN; rw [HQ.out]; rfl⟩
      have HB5 := HB
      go_wp2
      clear x0 x1 x2
      go_loopg [5, 54] (ws.length + 1) (fun kq v5 v54 wq => ∃ i : Nat, v54 = .int .i64 (i : Int) ∧ v5 = .bool (baseN q ws i) ∧ i ≤ ws.length ∧ ws.length - i < kq ∧ Aside0 (Below (w.alloc (.cells #[.int .i64 q, .slice A1 ws.length c1, .slice A2 cs.length c2] 25)).heap.size (w.alloc (.cells #[.int .i64 q, .slice A1 ws.length c1, .slice A2 cs.length c2] 25)) wq))
      case atStart => exact ⟨0, rfl, by rw [H0.out], Nat.zero_le _, by omega, HB5⟩
      case round =>
        clear HB5 HB
        obtain ⟨i, rfl, rfl, hi, hk, HB⟩ := hrel
        have z0 : (0 : Int) ≤ (i : Int) := by omega
        by_cases hlt : i < ws.length
        · have z1 : (i : Int) < (ws.length : Int) := by omega
          obtain ⟨ad5, eA, f0, f1, f2⟩ := at_T31 (Kd.C_below HR1.out (HX.out _ HB.out).2) (i : Int) z0 z1
          rw [rd_wA, Int.toNat_natCast] at f0 f1 f2
          subst eA
          have HN := Aside0.mk (baseN_succ (q := q) hlt)
          generalize wA ws i = x at *
          obtain ⟨d0, d1, d2⟩ := three_new wr 31 (.string x.f0) (.string x.f1) (.bool x.f2)
          have hcs : (baseN q ws i = false ∧ baseN q ws (i + 1) = false) ∨ (baseN q ws i = true ∧ baseN q ws (i + 1) = !x.f2) := by
            rw [HN.out]
            cases baseN q ws i
            · exact .inl ⟨rfl, rfl⟩
            · exact .inr ⟨rfl, by simp⟩
          rcases hcs with ⟨e1, e2⟩ | ⟨e1, e2⟩
          all_goals
            rw [e1]
            have E2 := Aside0.mk e2
            clear e1 e2 HN
            go_wp2
            go_roundg (gk - 1)
            case measure => omega
            case rel => exact ⟨i + 1, by go_num, by rw [E2.out], by omega, by omega, ⟨below_alloc HB.out _⟩⟩
        · have hiz : i = ws.length := by omega
          subst hiz
          clear hi hlt hk
          rw [HBA.out, ← HGZ.out]
          obtain ⟨x0, x1, x2⟩ := (HX.out _ HB.out).1
          go_wp2
          go_loopg [5, 68] (cs.length + 1) (fun kq v5 v68 wq => ∃ i : Nat, v68 = .int .i64 (i : Int) ∧ v5 = .bool (gN q ws cs i) ∧ i ≤ cs.length ∧ cs.length - i < kq ∧ Aside0 (Below (w.alloc (.cells #[.int .i64 q, .slice A1 ws.length c1, .slice A2 cs.length c2] 25)).heap.size (w.alloc (.cells #[.int .i64 q, .slice A1 ws.length c1, .slice A2 cs.length c2] 25)) wq))
          case atStart => exact ⟨0, rfl, rfl, Nat.zero_le _, by omega, HB⟩
          case round =>
            clear HB x0 x1 x2
            obtain ⟨i, rfl, rfl, hi, hk, HB⟩ := hrel
            have z0 : (0 : Int) ≤ (i : Int) := by omega
            by_cases hlt : i < cs.length
            · have z1 : (i : Int) < (cs.length : Int) := by omega
              obtain ⟨ad5, A5, c5, eA, f0, f1, f2, f3, f4⟩ := at_T28 (Kd.C_below HR2.out (HX.out _ HB.out).2) (i : Int) z0 z1
              rw [rd_cA, Int.toNat_natCast] at f0 f1 f2
              have hN := gN_succ (q := q) (ws := ws) hlt
              have hg0 : gN q ws cs i = false := by unfold gN; rw [HNO.out]; rfl
              rw [hg0] at hN ⊢
              have E2 : Aside0 (gN q ws cs (i + 1) = false) := ⟨hN⟩
              subst eA
              clear f3 f4 hN hg0
              generalize cA cs i = x at f0 f1 f2
              obtain ⟨d0, d1, d2⟩ := three_new wr 28 (.int .i64 x.f0) (.int .i64 x.f1) (.slice A5 x.f2.length c5)
              go_wp2
              go_quiet (fail)
              go_wp2
              go_roundg (gk - 1)
              case measure => omega
              case rel => exact ⟨i + 1, by go_num, by rw [E2.out], by omega, by omega, ⟨pw_below_drewN (below_alloc HB.out _) _⟩⟩
            · have hiz : i = cs.length := by omega
              subst hiz
              clear hi hlt hk
              rw [HGA.out]
              obtain ⟨x0, x1, x2⟩ := (HX.out _ HB.out).1
              have HSA := HST.out _ (HX.out _ HB.out).2
              cases hs : stateM q ws cs with
              | none =>
                rw [hs] at HSA HEN
                have HSB := Aside0.mk HSA
                clear HSA
                rw [show (none : Option StM).isSome = false from rfl]
                go_wp2_with (first
                  | (go_at_call 23; refine HSB.out.mono ?_; rintro e w6 ⟨hb6, h6, _⟩; obtain rfl := h6 rfl; have HB6 : Aside0 (Below (w.alloc (.cells #[.int .i64 q, .slice A1 ws.length c1, .slice A2 cs.length c2] 25)).heap.size (w.alloc (.cells #[.int .i64 q, .slice A1 ws.length c1, .slice A2 cs.length c2] 25)) w6) := ⟨below_step HB.out hb6⟩
                     have x0 := up hb6 x0; have x1 := up hb6 x1; have x2 := up hb6 x2; clear hb6 h6)
                  | (go_at_call 24; refine (HEN.out _ (HX.out _ HB6.out).2).mono ?_; rintro e w7 ⟨⟨s, rfl, hse⟩, hb7⟩; obtain rfl := hse rfl; have HB7 := Aside0.mk (below_step HB6.out hb7); clear hb7 hse))
                go_ret
                exact ⟨by simp, (HX.out _ HB7.out).2⟩
              | some M =>
                rw [hs] at HSA HEN
                have HSB := Aside0.mk HSA
                clear HSA
                rw [show (some M : Option StM).isSome = true from rfl]
                go_wp2_with (first
                  | (go_at_call 23; refine HSB.out.mono ?_; rintro e w6 ⟨hb6, _, h6⟩; obtain ⟨s6, rfl, _, _⟩ := h6 M rfl; have HB6 : Aside0 (Below (w.alloc (.cells #[.int .i64 q, .slice A1 ws.length c1, .slice A2 cs.length c2] 25)).heap.size (w.alloc (.cells #[.int .i64 q, .slice A1 ws.length c1, .slice A2 cs.length c2] 25)) w6) := ⟨below_step HB.out hb6⟩
                     have x0 := up hb6 x0; have x1 := up hb6 x1; have x2 := up hb6 x2; clear hb6 h6)
                  | (go_at_call 24; refine (HEN.out _ (HX.out _ HB6.out).2).mono ?_; rintro e w7 ⟨⟨s, rfl, _⟩, hb7⟩; have HB7 := Aside0.mk (below_step HB6.out hb7); clear hb7))
                go_ret
                exact ⟨by simp, (HX.out _ HB7.out).2⟩
set_option maxHeartbeats 16000000 in
theorem bad_max (q : Int) (ws : List Wr) (cs : List Cm) (A1 A2 : Option Addr) (c1 c2 : Nat) (w : World) (hr1 : Kd.C k31 w A1 ws.length ws) (hc1 : ws.length ≤ c1) (hr2 : Kd.C k28 w A2 cs.length cs) (hc2 : cs.length ≤ c2)
    (hwl : ∀ i, i < cs.length → (cA cs i).f2.length < 4611686018427387904) (hn1 : ws.length ≤ 30) (hn2 : cs.length ≤ 20) (e0 : decide (0 ≤ q) = true) (e1 : decide (q ≤ (1099511627776 : Int)) = false) :
    Calls Try.prog 3 #[.agg #[.int .i64 q, .slice A1 ws.length c1, .slice A2 cs.length c2]] w fun e w' => e = .returned (.bool true) ∧ Below w.heap.size w w'  := by
  have hb0 : Below w.heap.size w (w.alloc (.cells #[.int .i64 q, .slice A1 ws.length c1, .slice A2 cs.length c2] 25)) := below_alloc (Below.refl _ _) _
  obtain ⟨x0, x1, x2⟩ := three_new w 25 (.int .i64 q) (.slice A1 ws.length c1) (.slice A2 cs.length c2)
  have HX : Aside0 (∀ W, Below (w.alloc (.cells #[.int .i64 q, .slice A1 ws.length c1, .slice A2 cs.length c2] 25)).heap.size (w.alloc (.cells #[.int .i64 q, .slice A1 ws.length c1, .slice A2 cs.length c2] 25)) W → Three w.heap.size (.int .i64 q) (.slice A1 ws.length c1) (.slice A2 cs.length c2) W ∧ Below w.heap.size w W) := ⟨fun W hW => ⟨(three_new w 25 _ _ _).up hW, below_step hb0 hW⟩⟩
  have HR1 := Aside0.mk hr1
  have HR2 := Aside0.mk hr2
  have HWL := Aside0.mk hwl
  have HST : Aside0 (∀ W, Below w.heap.size w W → Calls Try.prog 23 #[.agg #[.int .i64 q, .slice A1 ws.length c1, .slice A2 cs.length c2]] W (statePost W (stateM q ws cs))) := ⟨fun W hW => state_any q ws cs A1 A2 c1 c2 W (Kd.C_below hr1 hW) hc1 (by omega) (Kd.C_below hr2 hW) hc2 (by omega) hwl⟩
  have HEN : Aside0 (∀ W, Below w.heap.size w W → Calls Try.prog 24 #[.agg #[.int .i64 q, .slice A1 ws.length c1, .slice A2 cs.length c2]] W fun e w' => (∃ s, e = .returned (.tuple #[.string s, .int .i64 (if (stateM q ws cs).isSome = true then 0 else 1)]) ∧ ((stateM q ws cs).isSome = false → s = ⟨#[]⟩)) ∧ Below W.heap.size W w') := ⟨fun W hW => by
    cases hs : stateM q ws cs with
    | none =>
      refine (enc_bad q ws cs A1 A2 c1 c2 W (Kd.C_below hr1 hW) hc1 (by omega) (Kd.C_below hr2 hW) hc2 (by omega) hwl hs).mono ?_
      rintro e w' ⟨rfl, hb⟩
      exact ⟨⟨_, rfl, fun _ => rfl⟩, hb⟩
    | some M =>
      refine (enc_good q ws cs A1 A2 c1 c2 W (Kd.C_below hr1 hW) hc1 (by omega) (Kd.C_below hr2 hW) hc2 (by omega) hwl M hs).mono ?_
      rintro e w' ⟨rfl, hb⟩
      exact ⟨⟨_, rfl, fun h => by cases h⟩, hb⟩⟩
  have HRW : Aside0 (∀ W, Below w.heap.size w W → Calls Try.prog 22 #[.slice A1 ws.length c1] W fun e w' => e = .returned (.bool (rightW ws)) ∧ Below W.heap.size W w') := ⟨fun W hW => lawright_any ws A1 c1 W (Kd.C_below hr1 hW) hc1 (by omega)⟩
  have HBA := Aside0.mk (baseN_all (q := q) (ws := ws) (by omega))
  have HGA := Aside0.mk (gN_all q ws cs)
  have HGZ := Aside0.mk (gN_zero q ws cs)
  have HQ : Aside0 ((decide (0 ≤ q) && decide (q ≤ maxSeq)) = false) := ⟨by unfold maxSeq; rw [e0, e1]; rfl⟩
  have HNO : Aside0 (newOk q ws = false) := ⟨by unfold newOk; rw [HQ.out]; rfl⟩
  have n1 : ¬ (30 : Int) < (ws.length : Int) := by omega
  have n2 : ¬ (20 : Int) < (cs.length : Int) := by omega
  clear hr1 hr2 hwl hb0
  go_enter Try.func3, Try.ntmps3
  go_wp2_with (first
    | (go_at_call 21; refine (head_any _).mono ?_; rintro e w1 ⟨rfl, hb⟩; have HB1 := Aside0.mk hb; have x0 := up hb x0; have x1 := up hb x1; have x2 := up hb x2; clear hb))
  go_loopg [29] (cs.length + 1) (fun kq v29 wq => ∃ i : Nat, v29 = .int .i64 (i : Int) ∧ i ≤ cs.length ∧ cs.length - i < kq ∧ Aside0 (Below (w.alloc (.cells #[.int .i64 q, .slice A1 ws.length c1, .slice A2 cs.length c2] 25)).heap.size (w.alloc (.cells #[.int .i64 q, .slice A1 ws.length c1, .slice A2 cs.length c2] 25)) wq))
  case atStart => exact ⟨0, rfl, Nat.zero_le _, by omega, HB1⟩
  case round =>
    clear HB1 x0 x1 x2
    obtain ⟨i, rfl, hi, hk, HB⟩ := hrel
    have z0 : (0 : Int) ≤ (i : Int) := by omega
    by_cases hlt : i < cs.length
    · have z1 : (i : Int) < (cs.length : Int) := by omega
      obtain ⟨ad5, A5, c5, eA, f0, f1, f2, f3, f4⟩ := at_T28 (Kd.C_below HR2.out (HX.out _ HB.out).2) (i : Int) z0 z1
      rw [rd_cA, Int.toNat_natCast] at f0 f1 f2
      subst eA
      generalize cA cs i = x at f0 f1 f2
      obtain ⟨d0, d1, d2⟩ := three_new wr 28 (.int .i64 x.f0) (.int .i64 x.f1) (.slice A5 x.f2.length c5)
      clear f3 f4
      by_cases h30 : x.f2.length ≤ 30
      · have n3 : ¬ (30 : Int) < (x.f2.length : Int) := by omega
        go_wp2
        go_roundg (gk - 1)
        case measure => omega
        case rel => exact ⟨i + 1, by go_num, by omega, by omega, ⟨below_alloc HB.out _⟩⟩
      · have n3 : (30 : Int) < (x.f2.length : Int) := by omega
        go_wp2
        go_ret
        exact ⟨rfl, (HX.out _ (below_alloc HB.out _)).2⟩
    · have hiz : i = cs.length := by omega
      subst hiz
      clear hi hlt hk
      obtain ⟨x0, x1, x2⟩ := (HX.out _ HB.out).1
      have H0 : Aside0 (baseN q ws 0 = false) := ⟨by unfold baseN; rw [HQ.out]; rfl⟩
      have HB5 := HB
      go_wp2
      clear x0 x1 x2
      go_loopg [5, 54] (ws.length + 1) (fun kq v5 v54 wq => ∃ i : Nat, v54 = .int .i64 (i : Int) ∧ v5 = .bool (baseN q ws i) ∧ i ≤ ws.length ∧ ws.length - i < kq ∧ Aside0 (Below (w.alloc (.cells #[.int .i64 q, .slice A1 ws.length c1, .slice A2 cs.length c2] 25)).heap.size (w.alloc (.cells #[.int .i64 q, .slice A1 ws.length c1, .slice A2 cs.length c2] 25)) wq))
      case atStart => exact ⟨0, rfl, by rw [H0.out], Nat.zero_le _, by omega, HB5⟩
      case round =>
        clear HB5 HB
        obtain ⟨i, rfl, rfl, hi, hk, HB⟩ := hrel
        have z0 : (0 : Int) ≤ (i : Int) := by omega
        by_cases hlt : i < ws.length
        · have z1 : (i : Int) < (ws.length : Int) := by omega
          obtain ⟨ad5, eA, f0, f1, f2⟩ := at_T31 (Kd.C_below HR1.out (HX.out _ HB.out).2) (i : Int) z0 z1
          rw [rd_wA, Int.toNat_natCast] at f0 f1 f2
          subst eA
          have HN := Aside0.mk (baseN_succ (q := q) hlt)
          generalize wA ws i = x at *
          obtain ⟨d0, d1, d2⟩ := three_new wr 31 (.string x.f0) (.string x.f1) (.bool x.f2)
          have hcs : (baseN q ws i = false ∧ baseN q ws (i + 1) = false) ∨ (baseN q ws i = true ∧ baseN q ws (i + 1) = !x.f2) := by
            rw [HN.out]
            cases baseN q ws i
            · exact .inl ⟨rfl, rfl⟩
            · exact .inr ⟨rfl, by simp⟩
          rcases hcs with ⟨e1, e2⟩ | ⟨e1, e2⟩
          all_goals
            rw [e1]
            have E2 := Aside0.mk e2
            clear e1 e2 HN
            go_wp2
            go_roundg (gk - 1)
            case measure => omega
            case rel => exact ⟨i + 1, by go_num, by rw [E2.out], by omega, by omega, ⟨below_alloc HB.out _⟩⟩
        · have hiz : i = ws.length := by omega
          subst hiz
          clear hi hlt hk
          rw [HBA.out, ← HGZ.out]
          obtain ⟨x0, x1, x2⟩ := (HX.out _ HB.out).1
          go_wp2
          go_loopg [5, 68] (cs.length + 1) (fun kq v5 v68 wq => ∃ i : Nat, v68 = .int .i64 (i : Int) ∧ v5 = .bool (gN q ws cs i) ∧ i ≤ cs.length ∧ cs.length - i < kq ∧ Aside0 (Below (w.alloc (.cells #[.int .i64 q, .slice A1 ws.length c1, .slice A2 cs.length c2] 25)).heap.size (w.alloc (.cells #[.int .i64 q, .slice A1 ws.length c1, .slice A2 cs.length c2] 25)) wq))
          case atStart => exact ⟨0, rfl, rfl, Nat.zero_le _, by omega, HB⟩
          case round =>
            clear HB x0 x1 x2
            obtain ⟨i, rfl, rfl, hi, hk, HB⟩ := hrel
            have z0 : (0 : Int) ≤ (i : Int) := by omega
            by_cases hlt : i < cs.length
            · have z1 : (i : Int) < (cs.length : Int) := by omega
              obtain ⟨ad5, A5, c5, eA, f0, f1, f2, f3, f4⟩ := at_T28 (Kd.C_below HR2.out (HX.out _ HB.out).2) (i : Int) z0 z1
              rw [rd_cA, Int.toNat_natCast] at f0 f1 f2
              have hN := gN_succ (q := q) (ws := ws) hlt
              have hg0 : gN q ws cs i = false := by unfold gN; rw [HNO.out]; rfl
              rw [hg0] at hN ⊢
              have E2 : Aside0 (gN q ws cs (i + 1) = false) := ⟨hN⟩
              subst eA
              clear f3 f4 hN hg0
              generalize cA cs i = x at f0 f1 f2
              obtain ⟨d0, d1, d2⟩ := three_new wr 28 (.int .i64 x.f0) (.int .i64 x.f1) (.slice A5 x.f2.length c5)
              go_wp2
              go_quiet (fail)
              go_wp2
              go_roundg (gk - 1)
              case measure => omega
              case rel => exact ⟨i + 1, by go_num, by rw [E2.out], by omega, by omega, ⟨pw_below_drewN (below_alloc HB.out _) _⟩⟩
            · have hiz : i = cs.length := by omega
              subst hiz
              clear hi hlt hk
              rw [HGA.out]
              obtain ⟨x0, x1, x2⟩ := (HX.out _ HB.out).1
              have HSA := HST.out _ (HX.out _ HB.out).2
              cases hs : stateM q ws cs with
              | none =>
                rw [hs] at HSA HEN
                have HSB := Aside0.mk HSA
                clear HSA
                rw [show (none : Option StM).isSome = false from rfl]
                go_wp2_with (first
                  | (go_at_call 23; refine HSB.out.mono ?_; rintro e w6 ⟨hb6, h6, _⟩; obtain rfl := h6 rfl; have HB6 : Aside0 (Below (w.alloc (.cells #[.int .i64 q, .slice A1 ws.length c1, .slice A2 cs.length c2] 25)).heap.size (w.alloc (.cells #[.int .i64 q, .slice A1 ws.length c1, .slice A2 cs.length c2] 25)) w6) := ⟨below_step HB.out hb6⟩
                     have x0 := up hb6 x0; have x1 := up hb6 x1; have x2 := up hb6 x2; clear hb6 h6)
                  | (go_at_call 24; refine (HEN.out _ (HX.out _ HB6.out).2).mono ?_; rintro e w7 ⟨⟨s, rfl, hse⟩, hb7⟩; obtain rfl := hse rfl; have HB7 := Aside0.mk (below_step HB6.out hb7); clear hb7 hse))
                go_ret
                exact ⟨by simp, (HX.out _ HB7.out).2⟩
              | some M =>
                rw [hs] at HSA HEN
                have HSB := Aside0.mk HSA
                clear HSA
                rw [show (some M : Option StM).isSome = true from rfl]
                go_wp2_with (first
                  | (go_at_call 23; refine HSB.out.mono ?_; rintro e w6 ⟨hb6, _, h6⟩; obtain ⟨s6, rfl, _, _⟩ := h6 M rfl; have HB6 : Aside0 (Below (w.alloc (.cells #[.int .i64 q, .slice A1 ws.length c1, .slice A2 cs.length c2] 25)).heap.size (w.alloc (.cells #[.int .i64 q, .slice A1 ws.length c1, .slice A2 cs.length c2] 25)) w6) := ⟨below_step HB.out hb6⟩
                     have x0 := up hb6 x0; have x1 := up hb6 x1; have x2 := up hb6 x2; clear hb6 h6)
                  | (go_at_call 24; refine (HEN.out _ (HX.out _ HB6.out).2).mono ?_; rintro e w7 ⟨⟨s, rfl, _⟩, hb7⟩; have HB7 := Aside0.mk (below_step HB6.out hb7); clear hb7))
                go_ret
                exact ⟨by simp, (HX.out _ HB7.out).2⟩
set_option maxHeartbeats 16000000 in
theorem bad_in (q : Int) (ws : List Wr) (cs : List Cm) (A1 A2 : Option Addr) (c1 c2 : Nat) (w : World) (hr1 : Kd.C k31 w A1 ws.length ws) (hc1 : ws.length ≤ c1) (hr2 : Kd.C k28 w A2 cs.length cs) (hc2 : cs.length ≤ c2)
    (hwl : ∀ i, i < cs.length → (cA cs i).f2.length < 4611686018427387904) (hn1 : ws.length ≤ 30) (hn2 : cs.length ≤ 20) (hq0 : 0 ≤ q) (hq1 : q ≤ maxSeq) :
    Calls Try.prog 3 #[.agg #[.int .i64 q, .slice A1 ws.length c1, .slice A2 cs.length c2]] w fun e w' => e = .returned (.bool true) ∧ Below w.heap.size w w'  := by
  have hb0 : Below w.heap.size w (w.alloc (.cells #[.int .i64 q, .slice A1 ws.length c1, .slice A2 cs.length c2] 25)) := below_alloc (Below.refl _ _) _
  obtain ⟨x0, x1, x2⟩ := three_new w 25 (.int .i64 q) (.slice A1 ws.length c1) (.slice A2 cs.length c2)
  have HX : Aside0 (∀ W, Below (w.alloc (.cells #[.int .i64 q, .slice A1 ws.length c1, .slice A2 cs.length c2] 25)).heap.size (w.alloc (.cells #[.int .i64 q, .slice A1 ws.length c1, .slice A2 cs.length c2] 25)) W → Three w.heap.size (.int .i64 q) (.slice A1 ws.length c1) (.slice A2 cs.length c2) W ∧ Below w.heap.size w W) := ⟨fun W hW => ⟨(three_new w 25 _ _ _).up hW, below_step hb0 hW⟩⟩
  have HR1 := Aside0.mk hr1
  have HR2 := Aside0.mk hr2
  have HWL := Aside0.mk hwl
  have HST : Aside0 (∀ W, Below w.heap.size w W → Calls Try.prog 23 #[.agg #[.int .i64 q, .slice A1 ws.length c1, .slice A2 cs.length c2]] W (statePost W (stateM q ws cs))) := ⟨fun W hW => state_any q ws cs A1 A2 c1 c2 W (Kd.C_below hr1 hW) hc1 (by omega) (Kd.C_below hr2 hW) hc2 (by omega) hwl⟩
  have HEN : Aside0 (∀ W, Below w.heap.size w W → Calls Try.prog 24 #[.agg #[.int .i64 q, .slice A1 ws.length c1, .slice A2 cs.length c2]] W fun e w' => (∃ s, e = .returned (.tuple #[.string s, .int .i64 (if (stateM q ws cs).isSome = true then 0 else 1)]) ∧ ((stateM q ws cs).isSome = false → s = ⟨#[]⟩)) ∧ Below W.heap.size W w') := ⟨fun W hW => by
    cases hs : stateM q ws cs with
    | none =>
      refine (enc_bad q ws cs A1 A2 c1 c2 W (Kd.C_below hr1 hW) hc1 (by omega) (Kd.C_below hr2 hW) hc2 (by omega) hwl hs).mono ?_
      rintro e w' ⟨rfl, hb⟩
      exact ⟨⟨_, rfl, fun _ => rfl⟩, hb⟩
    | some M =>
      refine (enc_good q ws cs A1 A2 c1 c2 W (Kd.C_below hr1 hW) hc1 (by omega) (Kd.C_below hr2 hW) hc2 (by omega) hwl M hs).mono ?_
      rintro e w' ⟨rfl, hb⟩
      exact ⟨⟨_, rfl, fun h => by cases h⟩, hb⟩⟩
  have HRW : Aside0 (∀ W, Below w.heap.size w W → Calls Try.prog 22 #[.slice A1 ws.length c1] W fun e w' => e = .returned (.bool (rightW ws)) ∧ Below W.heap.size W w') := ⟨fun W hW => lawright_any ws A1 c1 W (Kd.C_below hr1 hW) hc1 (by omega)⟩
  have HBA := Aside0.mk (baseN_all (q := q) (ws := ws) (by omega))
  have HGA := Aside0.mk (gN_all q ws cs)
  have HGZ := Aside0.mk (gN_zero q ws cs)
  have e0 : decide (0 ≤ q) = true := decide_eq_true hq0
  have e1 : decide (q ≤ (1099511627776 : Int)) = true := decide_eq_true hq1
  unfold maxSeq at hq1
  have n1 : ¬ (30 : Int) < (ws.length : Int) := by omega
  have n2 : ¬ (20 : Int) < (cs.length : Int) := by omega
  clear hr1 hr2 hwl hb0
  go_enter Try.func3, Try.ntmps3
  go_wp2_with (first
    | (go_at_call 21; refine (head_any _).mono ?_; rintro e w1 ⟨rfl, hb⟩; have HB1 := Aside0.mk hb; have x0 := up hb x0; have x1 := up hb x1; have x2 := up hb x2; clear hb))
  go_loopg [29] (cs.length + 1) (fun kq v29 wq => ∃ i : Nat, v29 = .int .i64 (i : Int) ∧ i ≤ cs.length ∧ cs.length - i < kq ∧ Aside0 (Below (w.alloc (.cells #[.int .i64 q, .slice A1 ws.length c1, .slice A2 cs.length c2] 25)).heap.size (w.alloc (.cells #[.int .i64 q, .slice A1 ws.length c1, .slice A2 cs.length c2] 25)) wq))
  case atStart => exact ⟨0, rfl, Nat.zero_le _, by omega, HB1⟩
  case round =>
    clear HB1 x0 x1 x2
    obtain ⟨i, rfl, hi, hk, HB⟩ := hrel
    have z0 : (0 : Int) ≤ (i : Int) := by omega
    by_cases hlt : i < cs.length
    · have z1 : (i : Int) < (cs.length : Int) := by omega
      obtain ⟨ad5, A5, c5, eA, f0, f1, f2, f3, f4⟩ := at_T28 (Kd.C_below HR2.out (HX.out _ HB.out).2) (i : Int) z0 z1
      rw [rd_cA, Int.toNat_natCast] at f0 f1 f2
      subst eA
      generalize cA cs i = x at f0 f1 f2
      obtain ⟨d0, d1, d2⟩ := three_new wr 28 (.int .i64 x.f0) (.int .i64 x.f1) (.slice A5 x.f2.length c5)
      clear f3 f4
      by_cases h30 : x.f2.length ≤ 30
      · have n3 : ¬ (30 : Int) < (x.f2.length : Int) := by omega
        go_wp2
        go_roundg (gk - 1)
        case measure => omega
        case rel => exact ⟨i + 1, by go_num, by omega, by omega, ⟨below_alloc HB.out _⟩⟩
      · have n3 : (30 : Int) < (x.f2.length : Int) := by omega
        go_wp2
        go_ret
        exact ⟨rfl, (HX.out _ (below_alloc HB.out _)).2⟩
    · have hiz : i = cs.length := by omega
      subst hiz
      clear hi hlt hk
      obtain ⟨x0, x1, x2⟩ := (HX.out _ HB.out).1
      have H0 : Aside0 (baseN q ws 0 = rightW ws) := ⟨by unfold baseN; rw [decide_eq_true hq0, decide_eq_true (show q ≤ maxSeq from hq1)]; simp⟩
      go_wp2_with (first
        | (go_at_call 22; refine (HRW.out _ (HX.out _ HB.out).2).mono ?_; rintro e w5 ⟨rfl, hb⟩; have HB5 := Aside0.mk (below_step HB.out hb); have x0 := up hb x0; have x1 := up hb x1; have x2 := up hb x2; clear hb))
      clear x0 x1 x2
      go_loopg [5, 54] (ws.length + 1) (fun kq v5 v54 wq => ∃ i : Nat, v54 = .int .i64 (i : Int) ∧ v5 = .bool (baseN q ws i) ∧ i ≤ ws.length ∧ ws.length - i < kq ∧ Aside0 (Below (w.alloc (.cells #[.int .i64 q, .slice A1 ws.length c1, .slice A2 cs.length c2] 25)).heap.size (w.alloc (.cells #[.int .i64 q, .slice A1 ws.length c1, .slice A2 cs.length c2] 25)) wq))
      case atStart => exact ⟨0, rfl, by rw [H0.out], Nat.zero_le _, by omega, HB5⟩
      case round =>
        clear HB5 HB
        obtain ⟨i, rfl, rfl, hi, hk, HB⟩ := hrel
        have z0 : (0 : Int) ≤ (i : Int) := by omega
        by_cases hlt : i < ws.length
        · have z1 : (i : Int) < (ws.length : Int) := by omega
          obtain ⟨ad5, eA, f0, f1, f2⟩ := at_T31 (Kd.C_below HR1.out (HX.out _ HB.out).2) (i : Int) z0 z1
          rw [rd_wA, Int.toNat_natCast] at f0 f1 f2
          subst eA
          have HN := Aside0.mk (baseN_succ (q := q) hlt)
          generalize wA ws i = x at *
          obtain ⟨d0, d1, d2⟩ := three_new wr 31 (.string x.f0) (.string x.f1) (.bool x.f2)
          have hcs : (baseN q ws i = false ∧ baseN q ws (i + 1) = false) ∨ (baseN q ws i = true ∧ baseN q ws (i + 1) = !x.f2) := by
            rw [HN.out]
            cases baseN q ws i
            · exact .inl ⟨rfl, rfl⟩
            · exact .inr ⟨rfl, by simp⟩
          rcases hcs with ⟨e1, e2⟩ | ⟨e1, e2⟩
          all_goals
            rw [e1]
            have E2 := Aside0.mk e2
            clear e1 e2 HN
            go_wp2
            go_roundg (gk - 1)
            case measure => omega
            case rel => exact ⟨i + 1, by go_num, by rw [E2.out], by omega, by omega, ⟨below_alloc HB.out _⟩⟩
        · have hiz : i = ws.length := by omega
          subst hiz
          clear hi hlt hk
          rw [HBA.out, ← HGZ.out]
          obtain ⟨x0, x1, x2⟩ := (HX.out _ HB.out).1
          go_wp2
          go_loopg [5, 68] (cs.length + 1) (fun kq v5 v68 wq => ∃ i : Nat, v68 = .int .i64 (i : Int) ∧ v5 = .bool (gN q ws cs i) ∧ i ≤ cs.length ∧ cs.length - i < kq ∧ Aside0 (Below (w.alloc (.cells #[.int .i64 q, .slice A1 ws.length c1, .slice A2 cs.length c2] 25)).heap.size (w.alloc (.cells #[.int .i64 q, .slice A1 ws.length c1, .slice A2 cs.length c2] 25)) wq))
          case atStart => exact ⟨0, rfl, rfl, Nat.zero_le _, by omega, HB⟩
          case round =>
            clear HB x0 x1 x2
            obtain ⟨i, rfl, rfl, hi, hk, HB⟩ := hrel
            have z0 : (0 : Int) ≤ (i : Int) := by omega
            by_cases hlt : i < cs.length
            · have z1 : (i : Int) < (cs.length : Int) := by omega
              obtain ⟨ad5, A5, c5, eA, f0, f1, f2, f3, f4⟩ := at_T28 (Kd.C_below HR2.out (HX.out _ HB.out).2) (i : Int) z0 z1
              rw [rd_cA, Int.toNat_natCast] at f0 f1 f2
              rw [rd_cA] at f3 f4
              have hN := gN_succ (q := q) (ws := ws) hlt
              obtain ⟨u0, u1, u2⟩ := (HX.out _ HB.out).1
              have HP : 0 < i → ∃ pv, pv = (cA cs (i - 1)).f1 ∧ wr.cell? ⟨(ad5.add ((i - 1) * 3)).block, (ad5.add ((i - 1) * 3)).off + 1, none⟩ = some (.int .i64 pv) := fun h => by
                obtain ⟨ad6, A6, c6, eA6, g0, g1, g2, g3, g4⟩ := at_T28 (Kd.C_below HR2.out (HX.out _ HB.out).2) ((i - 1 : Nat) : Int) (by omega) (by omega)
                rw [eA] at eA6
                cases eA6
                rw [rd_cA, Int.toNat_natCast] at g1
                exact ⟨_, rfl, g1⟩
              subst eA
              have HLR : Aside0 (∀ W, Below wr.heap.size wr W → Calls Try.prog 22 #[.slice A5 (cA cs i).f2.length c5] W fun e w' => e = .returned (.bool (rightW (cA cs i).f2)) ∧ Below W.heap.size W w') := ⟨fun W hW => lawright_any _ A5 c5 W (Kd.C_below f4 hW) f3 (HWL.out i hlt)⟩
              obtain ⟨x, hx⟩ : ∃ x, x = cA cs i := ⟨_, rfl⟩
              have HXE : Aside0 (cA cs i = x) := ⟨hx.symm⟩
              rw [← hx] at f0 f1 f2 HLR
              clear f3 f4 hx u1
              obtain ⟨d0, d1, d2⟩ := three_new wr 28 (.int .i64 x.f0) (.int .i64 x.f1) (.slice A5 x.f2.length c5)
              have y0 : (wr.alloc (.cells #[.int .i64 x.f0, .int .i64 x.f1, .slice A5 x.f2.length c5] 28)).cell? ⟨w.heap.size, 0, none⟩ = some (.int .i64 q) := Tr.up (below_alloc (Below.refl _ _) _) u0
              have y2 : (wr.alloc (.cells #[.int .i64 x.f0, .int .i64 x.f1, .slice A5 x.f2.length c5] 28)).cell? ⟨w.heap.size, 2, none⟩ = some (.slice (some ad5) cs.length c2) := Tr.up (below_alloc (Below.refl _ _) _) u2
              clear u0 u2
              cases hg : gN q ws cs i with
              | false =>
                rw [hg] at hN
                have E2 : Aside0 (gN q ws cs (i + 1) = false) := ⟨hN⟩
                clear hN hg HP
                go_wp2
                go_quiet (fail)
                go_wp2
                go_roundg (gk - 1)
                case measure => omega
                case rel => exact ⟨i + 1, by go_num, by rw [E2.out], by omega, by omega, ⟨pw_below_drewN (below_alloc HB.out _) _⟩⟩
              | true =>
                rw [hg, Bool.true_and] at hN
                clear hg
                have k0 : True := trivial
                have r1 : IntKind.i64.wrap (q + 1) = q + 1 := by rw [IntKind.wrap_i64]; omega
                have r2 : IntKind.i64.wrap (q + 1 + (i : Int)) = q + 1 + (i : Int) := by rw [IntKind.wrap_i64]; omega
                by_cases k1 : x.f0 = q + 1 + (i : Int)
                case neg =>
                  have b1 : (x.f0 == q + 1 + (i : Int)) = false := by simpa using k1
                  have E2 : Aside0 (gN q ws cs (i + 1) = false) := ⟨by rw [hN]; unfold condN; rw [HXE.out]; rw [decide_eq_false k1]; rfl⟩
                  clear hN k0 HP
                  go_wp2
                  go_quiet (fail)
                  go_wp2
                  go_roundg (gk - 1)
                  case measure => omega
                  case rel => exact ⟨i + 1, by go_num, by rw [E2.out], by omega, by omega, ⟨pw_below_drewN (below_alloc HB.out _) _⟩⟩
                have b1 : (x.f0 == q + 1 + (i : Int)) = true := by simpa using k1
                have KK1 := Aside0.mk k1
                clear k1
                by_cases k2 : x.f0 ≤ 1099511627776
                case neg =>
                  have b2 : decide (x.f0 ≤ (1099511627776 : Int)) = false := decide_eq_false k2
                  have E2 : Aside0 (gN q ws cs (i + 1) = false) := ⟨by rw [hN]; unfold condN; rw [HXE.out]; unfold maxSeq; rw [decide_eq_false k2]; simp⟩
                  clear hN k0 HP
                  go_wp2
                  go_quiet (fail)
                  go_wp2
                  go_roundg (gk - 1)
                  case measure => omega
                  case rel => exact ⟨i + 1, by go_num, by rw [E2.out], by omega, by omega, ⟨pw_below_drewN (below_alloc HB.out _) _⟩⟩
                have b2 : decide (x.f0 ≤ (1099511627776 : Int)) = true := decide_eq_true k2
                by_cases k3 : 0 ≤ x.f1
                case neg =>
                  have b3 : decide ((0 : Int) ≤ x.f1) = false := decide_eq_false k3
                  have E2 : Aside0 (gN q ws cs (i + 1) = false) := ⟨by rw [hN]; unfold condN; rw [HXE.out]; rw [decide_eq_false k3]; simp⟩
                  clear hN k0 HP
                  go_wp2
                  go_quiet (fail)
                  go_wp2
                  go_roundg (gk - 1)
                  case measure => omega
                  case rel => exact ⟨i + 1, by go_num, by rw [E2.out], by omega, by omega, ⟨pw_below_drewN (below_alloc HB.out _) _⟩⟩
                have b3 : decide ((0 : Int) ≤ x.f1) = true := decide_eq_true k3
                by_cases k4 : x.f1 ≤ 1099511627776
                case neg =>
                  have b4 : decide (x.f1 ≤ (1099511627776 : Int)) = false := decide_eq_false k4
                  have E2 : Aside0 (gN q ws cs (i + 1) = false) := ⟨by rw [hN]; unfold condN; rw [HXE.out]; unfold maxSeq; rw [decide_eq_false k4]; simp⟩
                  clear hN k0 HP
                  go_wp2
                  go_quiet (fail)
                  go_wp2
                  go_roundg (gk - 1)
                  case measure => omega
                  case rel => exact ⟨i + 1, by go_num, by rw [E2.out], by omega, by omega, ⟨pw_below_drewN (below_alloc HB.out _) _⟩⟩
                have b4 : decide (x.f1 ≤ (1099511627776 : Int)) = true := decide_eq_true k4
                cases k5 : rightW x.f2 with
                | false =>
                  rw [k5] at HLR
                  have E2 : Aside0 (gN q ws cs (i + 1) = false) := ⟨by rw [hN]; unfold condN; rw [HXE.out]; rw [k5]; simp⟩
                  have hu : Below (wr.alloc (.cells #[.int .i64 x.f0, .int .i64 x.f1, .slice A5 x.f2.length c5] 28)).heap.size (wr.alloc (.cells #[.int .i64 x.f0, .int .i64 x.f1, .slice A5 x.f2.length c5] 28)) (wr.alloc (.cells #[.int .i64 x.f0, .int .i64 x.f1, .slice A5 x.f2.length c5] 28)).drew := below_drew1 (Below.refl _ _)
                  have S0 : (fun W : World => W.cell? ⟨wr.heap.size, 0, none⟩ = some (.int .i64 x.f0) ∧ W.cell? ⟨wr.heap.size, 1, none⟩ = some (.int .i64 x.f1) ∧ W.cell? ⟨wr.heap.size, 2, none⟩ = some (.slice A5 x.f2.length c5) ∧ W.cell? ⟨w.heap.size, 0, none⟩ = some (.int .i64 q) ∧ W.cell? ⟨w.heap.size, 2, none⟩ = some (.slice (some ad5) cs.length c2)) (wr.alloc (.cells #[.int .i64 x.f0, .int .i64 x.f1, .slice A5 x.f2.length c5] 28)).drew := ⟨Tr.up hu d0, Tr.up hu d1, Tr.up hu d2, Tr.up hu y0, Tr.up hu y2⟩
                  clear hN k0 HP
                  go_wp2
                  refine wp_region_held_drew (S := (fun W : World => W.cell? ⟨wr.heap.size, 0, none⟩ = some (.int .i64 x.f0) ∧ W.cell? ⟨wr.heap.size, 1, none⟩ = some (.int .i64 x.f1) ∧ W.cell? ⟨wr.heap.size, 2, none⟩ = some (.slice A5 x.f2.length c5) ∧ W.cell? ⟨w.heap.size, 0, none⟩ = some (.int .i64 q) ∧ W.cell? ⟨w.heap.size, 2, none⟩ = some (.slice (some ad5) cs.length c2))) (by kernel_rfl) (by (try dsimp only); exact S0) (fun hHeld => ?_)
                  refine wpAnyH_take (i := 0) (oi := { dst := some 73, op := Go.Op.move (Go.Operand.tmp 5), type := 4, pos := "law.go:157", after := #[], guard := none }) (v := ?_) rfl (by kernel_rfl) (by kernel_rfl) (by kernel_rfl) (fun _ _ _ h => h) (Or.inl ⟨by rfl, ?_⟩) (by assumption) ?_
                  rotate_left
                  · intro w hSw; (try dsimp only at hSw); (obtain ⟨s0, s1, s2, s3, s4⟩ := hSw); go_simp; (try with_reducible rfl)
                  try simp only [Act.put, List.setIfInBounds_toArray, List.set_cons_zero, List.set_cons_succ]
                  refine wpAnyH_take (i := 1) (oi := { dst := some 74, op := Go.Op.move (Go.Operand.tmp 73), type := 4, pos := "law.go:157", after := #[{ on := 0, ground := Go.Ground.data }], guard := none }) (v := ?_) rfl (by kernel_rfl) (by kernel_rfl) (by kernel_rfl) (fun _ _ _ h => h) (Or.inl ⟨by rfl, ?_⟩) (by assumption) ?_
                  rotate_left
                  · intro w hSw; (try dsimp only at hSw); (obtain ⟨s0, s1, s2, s3, s4⟩ := hSw); go_simp; (try with_reducible rfl)
                  try simp only [Act.put, List.setIfInBounds_toArray, List.set_cons_zero, List.set_cons_succ]
                  refine wpAnyH_take (i := 2) (oi := { dst := some 75, op := Go.Op.fieldAddr 28 (Go.Operand.tmp 9) 0, type := 0, pos := "law.go:157", after := #[{ on := 1, ground := Go.Ground.guard }], guard := some (1, true) }) (v := ?_) rfl (by kernel_rfl) (by kernel_rfl) (by kernel_rfl) (fun _ _ _ h => h) (Or.inl ⟨by rfl, ?_⟩) (by assumption) ?_
                  rotate_left
                  · intro w hSw; (try dsimp only at hSw); (obtain ⟨s0, s1, s2, s3, s4⟩ := hSw); go_simp; (try with_reducible rfl)
                  try simp only [Act.put, List.setIfInBounds_toArray, List.set_cons_zero, List.set_cons_succ]
                  refine wpAnyH_take (i := 3) (oi := { dst := some 76, op := Go.Op.load 3 (Go.Operand.tmp 75), type := 3, pos := "law.go:157", after := #[{ on := 2, ground := Go.Ground.data }, { on := 1, ground := Go.Ground.guard }], guard := some (1, true) }) (v := ?_) rfl (by kernel_rfl) (by kernel_rfl) (by kernel_rfl) (fun _ _ _ h => h) (Or.inl ⟨by rfl, ?_⟩) (by assumption) ?_
                  rotate_left
                  · intro w hSw; (try dsimp only at hSw); (obtain ⟨s0, s1, s2, s3, s4⟩ := hSw); go_simp; (try with_reducible rfl)
                  try simp only [Act.put, List.setIfInBounds_toArray, List.set_cons_zero, List.set_cons_succ]
                  refine wpAnyH_take (i := 4) (oi := { dst := some 77, op := Go.Op.fieldAddr 25 (Go.Operand.tmp 1) 0, type := 0, pos := "law.go:157", after := #[{ on := 1, ground := Go.Ground.guard }], guard := some (1, true) }) (v := ?_) rfl (by kernel_rfl) (by kernel_rfl) (by kernel_rfl) (fun _ _ _ h => h) (Or.inl ⟨by rfl, ?_⟩) (by assumption) ?_
                  rotate_left
                  · intro w hSw; (try dsimp only at hSw); (obtain ⟨s0, s1, s2, s3, s4⟩ := hSw); go_simp; (try with_reducible rfl)
                  try simp only [Act.put, List.setIfInBounds_toArray, List.set_cons_zero, List.set_cons_succ]
                  refine wpAnyH_take (i := 5) (oi := { dst := some 78, op := Go.Op.load 3 (Go.Operand.tmp 77), type := 3, pos := "law.go:157", after := #[{ on := 4, ground := Go.Ground.data }, { on := 1, ground := Go.Ground.guard }], guard := some (1, true) }) (v := ?_) rfl (by kernel_rfl) (by kernel_rfl) (by kernel_rfl) (fun _ _ _ h => h) (Or.inl ⟨by rfl, ?_⟩) (by assumption) ?_
                  rotate_left
                  · intro w hSw; (try dsimp only at hSw); (obtain ⟨s0, s1, s2, s3, s4⟩ := hSw); go_simp; (try with_reducible rfl)
                  try simp only [Act.put, List.setIfInBounds_toArray, List.set_cons_zero, List.set_cons_succ]
                  refine wpAnyH_take (i := 6) (oi := { dst := some 79, op := Go.Op.binOp Go.BinOp.add 3 (Go.Operand.tmp 78) (Go.Operand.const (Go.Value.int Go.IntKind.i64 1)) 3, type := 3, pos := "law.go:157", after := #[{ on := 5, ground := Go.Ground.data }, { on := 1, ground := Go.Ground.guard }], guard := some (1, true) }) (v := ?_) rfl (by kernel_rfl) (by kernel_rfl) (by kernel_rfl) (fun _ _ _ h => h) (Or.inl ⟨by rfl, ?_⟩) (by assumption) ?_
                  rotate_left
                  · intro w hSw; (try dsimp only at hSw); (obtain ⟨s0, s1, s2, s3, s4⟩ := hSw); go_simp; (try with_reducible rfl)
                  try simp only [Act.put, List.setIfInBounds_toArray, List.set_cons_zero, List.set_cons_succ]
                  refine wpAnyH_take (i := 7) (oi := { dst := some 80, op := Go.Op.move (Go.Operand.tmp 8), type := 3, pos := "law.go:157", after := #[{ on := 1, ground := Go.Ground.guard }], guard := some (1, true) }) (v := ?_) rfl (by kernel_rfl) (by kernel_rfl) (by kernel_rfl) (fun _ _ _ h => h) (Or.inl ⟨by rfl, ?_⟩) (by assumption) ?_
                  rotate_left
                  · intro w hSw; (try dsimp only at hSw); (obtain ⟨s0, s1, s2, s3, s4⟩ := hSw); go_simp; (try with_reducible rfl)
                  try simp only [Act.put, List.setIfInBounds_toArray, List.set_cons_zero, List.set_cons_succ]
                  refine wpAnyH_take (i := 8) (oi := { dst := some 81, op := Go.Op.binOp Go.BinOp.add 3 (Go.Operand.tmp 79) (Go.Operand.tmp 80) 3, type := 3, pos := "law.go:157", after := #[{ on := 6, ground := Go.Ground.data }, { on := 7, ground := Go.Ground.data }, { on := 1, ground := Go.Ground.guard }], guard := some (1, true) }) (v := ?_) rfl (by kernel_rfl) (by kernel_rfl) (by kernel_rfl) (fun _ _ _ h => h) (Or.inl ⟨by rfl, ?_⟩) (by assumption) ?_
                  rotate_left
                  · intro w hSw; (try dsimp only at hSw); (obtain ⟨s0, s1, s2, s3, s4⟩ := hSw); go_simp; (try with_reducible rfl)
                  try simp only [Act.put, List.setIfInBounds_toArray, List.set_cons_zero, List.set_cons_succ]
                  refine wpAnyH_take (i := 9) (oi := { dst := some 82, op := Go.Op.binOp Go.BinOp.eql 3 (Go.Operand.tmp 76) (Go.Operand.tmp 81) 3, type := 4, pos := "law.go:157", after := #[{ on := 3, ground := Go.Ground.data }, { on := 8, ground := Go.Ground.data }, { on := 1, ground := Go.Ground.guard }], guard := some (1, true) }) (v := ?_) rfl (by kernel_rfl) (by kernel_rfl) (by kernel_rfl) (fun _ _ _ h => h) (Or.inl ⟨by rfl, ?_⟩) (by assumption) ?_
                  rotate_left
                  · intro w hSw; (try dsimp only at hSw); (obtain ⟨s0, s1, s2, s3, s4⟩ := hSw); go_simp; (try with_reducible rfl)
                  try simp only [Act.put, List.setIfInBounds_toArray, List.set_cons_zero, List.set_cons_succ]
                  refine wpAnyH_take (i := 10) (oi := { dst := some 83, op := Go.Op.pick (Go.Operand.tmp 74) (Go.Operand.tmp 82) (Go.Operand.const (Go.Value.bool false)), type := 4, pos := "law.go:157", after := #[{ on := 1, ground := Go.Ground.data }, { on := 9, ground := Go.Ground.data }], guard := none }) (v := ?_) rfl (by kernel_rfl) (by kernel_rfl) (by kernel_rfl) (fun _ _ _ h => h) (Or.inl ⟨by rfl, ?_⟩) (by assumption) ?_
                  rotate_left
                  · intro w hSw; (try dsimp only at hSw); (obtain ⟨s0, s1, s2, s3, s4⟩ := hSw); go_simp; (try with_reducible rfl)
                  try simp only [Act.put, List.setIfInBounds_toArray, List.set_cons_zero, List.set_cons_succ]
                  refine wpAnyH_take (i := 11) (oi := { dst := some 84, op := Go.Op.move (Go.Operand.tmp 83), type := 4, pos := "law.go:157", after := #[{ on := 10, ground := Go.Ground.data }, { on := 1, ground := Go.Ground.chain }], guard := none }) (v := ?_) rfl (by kernel_rfl) (by kernel_rfl) (by kernel_rfl) (fun _ _ _ h => h) (Or.inl ⟨by rfl, ?_⟩) (by assumption) ?_
                  rotate_left
                  · intro w hSw; (try dsimp only at hSw); (obtain ⟨s0, s1, s2, s3, s4⟩ := hSw); go_simp; (try with_reducible rfl)
                  try simp only [Act.put, List.setIfInBounds_toArray, List.set_cons_zero, List.set_cons_succ]
                  refine wpAnyH_take (i := 12) (oi := { dst := some 85, op := Go.Op.fieldAddr 28 (Go.Operand.tmp 9) 0, type := 0, pos := "law.go:157", after := #[{ on := 11, ground := Go.Ground.guard }], guard := some (11, true) }) (v := ?_) rfl (by kernel_rfl) (by kernel_rfl) (by kernel_rfl) (fun _ _ _ h => h) (Or.inl ⟨by rfl, ?_⟩) (by assumption) ?_
                  rotate_left
                  · intro w hSw; (try dsimp only at hSw); (obtain ⟨s0, s1, s2, s3, s4⟩ := hSw); go_simp; (try with_reducible rfl)
                  try simp only [Act.put, List.setIfInBounds_toArray, List.set_cons_zero, List.set_cons_succ]
                  refine wpAnyH_take (i := 13) (oi := { dst := some 86, op := Go.Op.load 3 (Go.Operand.tmp 85), type := 3, pos := "law.go:157", after := #[{ on := 12, ground := Go.Ground.data }, { on := 11, ground := Go.Ground.guard }], guard := some (11, true) }) (v := ?_) rfl (by kernel_rfl) (by kernel_rfl) (by kernel_rfl) (fun _ _ _ h => h) (Or.inl ⟨by rfl, ?_⟩) (by assumption) ?_
                  rotate_left
                  · intro w hSw; (try dsimp only at hSw); (obtain ⟨s0, s1, s2, s3, s4⟩ := hSw); go_simp; (try with_reducible rfl)
                  try simp only [Act.put, List.setIfInBounds_toArray, List.set_cons_zero, List.set_cons_succ]
                  refine wpAnyH_take (i := 14) (oi := { dst := some 87, op := Go.Op.binOp Go.BinOp.leq 3 (Go.Operand.tmp 86) (Go.Operand.const (Go.Value.int Go.IntKind.i64 1099511627776)) 3, type := 4, pos := "law.go:157", after := #[{ on := 13, ground := Go.Ground.data }, { on := 11, ground := Go.Ground.guard }], guard := some (11, true) }) (v := ?_) rfl (by kernel_rfl) (by kernel_rfl) (by kernel_rfl) (fun _ _ _ h => h) (Or.inl ⟨by rfl, ?_⟩) (by assumption) ?_
                  rotate_left
                  · intro w hSw; (try dsimp only at hSw); (obtain ⟨s0, s1, s2, s3, s4⟩ := hSw); go_simp; (try with_reducible rfl)
                  try simp only [Act.put, List.setIfInBounds_toArray, List.set_cons_zero, List.set_cons_succ]
                  refine wpAnyH_take (i := 15) (oi := { dst := some 88, op := Go.Op.pick (Go.Operand.tmp 84) (Go.Operand.tmp 87) (Go.Operand.const (Go.Value.bool false)), type := 4, pos := "law.go:157", after := #[{ on := 11, ground := Go.Ground.data }, { on := 14, ground := Go.Ground.data }], guard := none }) (v := ?_) rfl (by kernel_rfl) (by kernel_rfl) (by kernel_rfl) (fun _ _ _ h => h) (Or.inl ⟨by rfl, ?_⟩) (by assumption) ?_
                  rotate_left
                  · intro w hSw; (try dsimp only at hSw); (obtain ⟨s0, s1, s2, s3, s4⟩ := hSw); go_simp; (try with_reducible rfl)
                  try simp only [Act.put, List.setIfInBounds_toArray, List.set_cons_zero, List.set_cons_succ]
                  refine wpAnyH_take (i := 16) (oi := { dst := some 89, op := Go.Op.move (Go.Operand.tmp 88), type := 4, pos := "law.go:157", after := #[{ on := 15, ground := Go.Ground.data }, { on := 11, ground := Go.Ground.chain }], guard := none }) (v := ?_) rfl (by kernel_rfl) (by kernel_rfl) (by kernel_rfl) (fun _ _ _ h => h) (Or.inl ⟨by rfl, ?_⟩) (by assumption) ?_
                  rotate_left
                  · intro w hSw; (try dsimp only at hSw); (obtain ⟨s0, s1, s2, s3, s4⟩ := hSw); go_simp; (try with_reducible rfl)
                  try simp only [Act.put, List.setIfInBounds_toArray, List.set_cons_zero, List.set_cons_succ]
                  refine wpAnyH_take (i := 17) (oi := { dst := some 90, op := Go.Op.fieldAddr 28 (Go.Operand.tmp 9) 1, type := 0, pos := "law.go:157", after := #[{ on := 16, ground := Go.Ground.guard }], guard := some (16, true) }) (v := ?_) rfl (by kernel_rfl) (by kernel_rfl) (by kernel_rfl) (fun _ _ _ h => h) (Or.inl ⟨by rfl, ?_⟩) (by assumption) ?_
                  rotate_left
                  · intro w hSw; (try dsimp only at hSw); (obtain ⟨s0, s1, s2, s3, s4⟩ := hSw); go_simp; (try with_reducible rfl)
                  try simp only [Act.put, List.setIfInBounds_toArray, List.set_cons_zero, List.set_cons_succ]
                  refine wpAnyH_take (i := 18) (oi := { dst := some 91, op := Go.Op.load 3 (Go.Operand.tmp 90), type := 3, pos := "law.go:157", after := #[{ on := 17, ground := Go.Ground.data }, { on := 16, ground := Go.Ground.guard }], guard := some (16, true) }) (v := ?_) rfl (by kernel_rfl) (by kernel_rfl) (by kernel_rfl) (fun _ _ _ h => h) (Or.inl ⟨by rfl, ?_⟩) (by assumption) ?_
                  rotate_left
                  · intro w hSw; (try dsimp only at hSw); (obtain ⟨s0, s1, s2, s3, s4⟩ := hSw); go_simp; (try with_reducible rfl)
                  try simp only [Act.put, List.setIfInBounds_toArray, List.set_cons_zero, List.set_cons_succ]
                  refine wpAnyH_take (i := 19) (oi := { dst := some 92, op := Go.Op.binOp Go.BinOp.geq 3 (Go.Operand.tmp 91) (Go.Operand.const (Go.Value.int Go.IntKind.i64 0)) 3, type := 4, pos := "law.go:157", after := #[{ on := 18, ground := Go.Ground.data }, { on := 16, ground := Go.Ground.guard }], guard := some (16, true) }) (v := ?_) rfl (by kernel_rfl) (by kernel_rfl) (by kernel_rfl) (fun _ _ _ h => h) (Or.inl ⟨by rfl, ?_⟩) (by assumption) ?_
                  rotate_left
                  · intro w hSw; (try dsimp only at hSw); (obtain ⟨s0, s1, s2, s3, s4⟩ := hSw); go_simp; (try with_reducible rfl)
                  try simp only [Act.put, List.setIfInBounds_toArray, List.set_cons_zero, List.set_cons_succ]
                  refine wpAnyH_take (i := 20) (oi := { dst := some 93, op := Go.Op.pick (Go.Operand.tmp 89) (Go.Operand.tmp 92) (Go.Operand.const (Go.Value.bool false)), type := 4, pos := "law.go:157", after := #[{ on := 16, ground := Go.Ground.data }, { on := 19, ground := Go.Ground.data }], guard := none }) (v := ?_) rfl (by kernel_rfl) (by kernel_rfl) (by kernel_rfl) (fun _ _ _ h => h) (Or.inl ⟨by rfl, ?_⟩) (by assumption) ?_
                  rotate_left
                  · intro w hSw; (try dsimp only at hSw); (obtain ⟨s0, s1, s2, s3, s4⟩ := hSw); go_simp; (try with_reducible rfl)
                  try simp only [Act.put, List.setIfInBounds_toArray, List.set_cons_zero, List.set_cons_succ]
                  refine wpAnyH_take (i := 21) (oi := { dst := some 94, op := Go.Op.move (Go.Operand.tmp 93), type := 4, pos := "law.go:157", after := #[{ on := 20, ground := Go.Ground.data }, { on := 16, ground := Go.Ground.chain }], guard := none }) (v := ?_) rfl (by kernel_rfl) (by kernel_rfl) (by kernel_rfl) (fun _ _ _ h => h) (Or.inl ⟨by rfl, ?_⟩) (by assumption) ?_
                  rotate_left
                  · intro w hSw; (try dsimp only at hSw); (obtain ⟨s0, s1, s2, s3, s4⟩ := hSw); go_simp; (try with_reducible rfl)
                  try simp only [Act.put, List.setIfInBounds_toArray, List.set_cons_zero, List.set_cons_succ]
                  refine wpAnyH_take (i := 22) (oi := { dst := some 95, op := Go.Op.fieldAddr 28 (Go.Operand.tmp 9) 1, type := 0, pos := "law.go:157", after := #[{ on := 21, ground := Go.Ground.guard }], guard := some (21, true) }) (v := ?_) rfl (by kernel_rfl) (by kernel_rfl) (by kernel_rfl) (fun _ _ _ h => h) (Or.inl ⟨by rfl, ?_⟩) (by assumption) ?_
                  rotate_left
                  · intro w hSw; (try dsimp only at hSw); (obtain ⟨s0, s1, s2, s3, s4⟩ := hSw); go_simp; (try with_reducible rfl)
                  try simp only [Act.put, List.setIfInBounds_toArray, List.set_cons_zero, List.set_cons_succ]
                  refine wpAnyH_take (i := 23) (oi := { dst := some 96, op := Go.Op.load 3 (Go.Operand.tmp 95), type := 3, pos := "law.go:157", after := #[{ on := 22, ground := Go.Ground.data }, { on := 21, ground := Go.Ground.guard }], guard := some (21, true) }) (v := ?_) rfl (by kernel_rfl) (by kernel_rfl) (by kernel_rfl) (fun _ _ _ h => h) (Or.inl ⟨by rfl, ?_⟩) (by assumption) ?_
                  rotate_left
                  · intro w hSw; (try dsimp only at hSw); (obtain ⟨s0, s1, s2, s3, s4⟩ := hSw); go_simp; (try with_reducible rfl)
                  try simp only [Act.put, List.setIfInBounds_toArray, List.set_cons_zero, List.set_cons_succ]
                  refine wpAnyH_take (i := 24) (oi := { dst := some 97, op := Go.Op.binOp Go.BinOp.leq 3 (Go.Operand.tmp 96) (Go.Operand.const (Go.Value.int Go.IntKind.i64 1099511627776)) 3, type := 4, pos := "law.go:157", after := #[{ on := 23, ground := Go.Ground.data }, { on := 21, ground := Go.Ground.guard }], guard := some (21, true) }) (v := ?_) rfl (by kernel_rfl) (by kernel_rfl) (by kernel_rfl) (fun _ _ _ h => h) (Or.inl ⟨by rfl, ?_⟩) (by assumption) ?_
                  rotate_left
                  · intro w hSw; (try dsimp only at hSw); (obtain ⟨s0, s1, s2, s3, s4⟩ := hSw); go_simp; (try with_reducible rfl)
                  try simp only [Act.put, List.setIfInBounds_toArray, List.set_cons_zero, List.set_cons_succ]
                  refine wpAnyH_take (i := 25) (oi := { dst := some 98, op := Go.Op.pick (Go.Operand.tmp 94) (Go.Operand.tmp 97) (Go.Operand.const (Go.Value.bool false)), type := 4, pos := "law.go:157", after := #[{ on := 21, ground := Go.Ground.data }, { on := 24, ground := Go.Ground.data }], guard := none }) (v := ?_) rfl (by kernel_rfl) (by kernel_rfl) (by kernel_rfl) (fun _ _ _ h => h) (Or.inl ⟨by rfl, ?_⟩) (by assumption) ?_
                  rotate_left
                  · intro w hSw; (try dsimp only at hSw); (obtain ⟨s0, s1, s2, s3, s4⟩ := hSw); go_simp; (try with_reducible rfl)
                  try simp only [Act.put, List.setIfInBounds_toArray, List.set_cons_zero, List.set_cons_succ]
                  refine wpAnyH_take (i := 26) (oi := { dst := some 99, op := Go.Op.move (Go.Operand.tmp 98), type := 4, pos := "law.go:157", after := #[{ on := 25, ground := Go.Ground.data }, { on := 21, ground := Go.Ground.chain }], guard := none }) (v := ?_) rfl (by kernel_rfl) (by kernel_rfl) (by kernel_rfl) (fun _ _ _ h => h) (Or.inl ⟨by rfl, ?_⟩) (by assumption) ?_
                  rotate_left
                  · intro w hSw; (try dsimp only at hSw); (obtain ⟨s0, s1, s2, s3, s4⟩ := hSw); go_simp; (try with_reducible rfl)
                  try simp only [Act.put, List.setIfInBounds_toArray, List.set_cons_zero, List.set_cons_succ]
                  refine wpAnyH_take (i := 27) (oi := { dst := some 100, op := Go.Op.fieldAddr 28 (Go.Operand.tmp 9) 2, type := 0, pos := "law.go:157", after := #[{ on := 26, ground := Go.Ground.guard }], guard := some (26, true) }) (v := ?_) rfl (by kernel_rfl) (by kernel_rfl) (by kernel_rfl) (fun _ _ _ h => h) (Or.inl ⟨by rfl, ?_⟩) (by assumption) ?_
                  rotate_left
                  · intro w hSw; (try dsimp only at hSw); (obtain ⟨s0, s1, s2, s3, s4⟩ := hSw); go_simp; (try with_reducible rfl)
                  try simp only [Act.put, List.setIfInBounds_toArray, List.set_cons_zero, List.set_cons_succ]
                  refine wpAnyH_take (i := 28) (oi := { dst := some 101, op := Go.Op.load 22 (Go.Operand.tmp 100), type := 22, pos := "law.go:157", after := #[{ on := 27, ground := Go.Ground.data }, { on := 26, ground := Go.Ground.guard }], guard := some (26, true) }) (v := ?_) rfl (by kernel_rfl) (by kernel_rfl) (by kernel_rfl) (fun _ _ _ h => h) (Or.inl ⟨by rfl, ?_⟩) (by assumption) ?_
                  rotate_left
                  · intro w hSw; (try dsimp only at hSw); (obtain ⟨s0, s1, s2, s3, s4⟩ := hSw); go_simp; (try with_reducible rfl)
                  try simp only [Act.put, List.setIfInBounds_toArray, List.set_cons_zero, List.set_cons_succ]
                  refine wpAnyH_ready (rs := [29]) (by kernel_rfl) (by simp) ?_
                  refine AllReadyH.cons rfl (fun K hK => ?_) AllReadyH.nil
                  go_simp
                  refine (HLR.out _ (below_drew1 (below_alloc (Below.refl _ _) _))).mono ?_
                  rintro e w5 ⟨rfl, hb⟩
                  have hb' : Below (wr.alloc (.cells #[.int .i64 x.f0, .int .i64 x.f1, .slice A5 x.f2.length c5] 28)).heap.size (wr.alloc (.cells #[.int .i64 x.f0, .int .i64 x.f1, .slice A5 x.f2.length c5] 28)) w5 := below_step hu hb
                  have S5 : (fun W : World => W.cell? ⟨wr.heap.size, 0, none⟩ = some (.int .i64 x.f0) ∧ W.cell? ⟨wr.heap.size, 1, none⟩ = some (.int .i64 x.f1) ∧ W.cell? ⟨wr.heap.size, 2, none⟩ = some (.slice A5 x.f2.length c5) ∧ W.cell? ⟨w.heap.size, 0, none⟩ = some (.int .i64 q) ∧ W.cell? ⟨w.heap.size, 2, none⟩ = some (.slice (some ad5) cs.length c2)) w5 := ⟨Tr.up hb' d0, Tr.up hb' d1, Tr.up hb' d2, Tr.up hb' y0, Tr.up hb' y2⟩
                  have HB5 := Aside0.mk (below_step (below_alloc HB.out _) hb')
                  clear hb hb'
                  go_simp
                  refine hK.out _ _ (by (try dsimp only); exact S5) (fun hHeld => ?_)
                  clear hK K
                  try simp only [Act.put, List.setIfInBounds_toArray, List.set_cons_zero, List.set_cons_succ]
                  refine wpAnyH_take (i := 30) (oi := { dst := some 103, op := Go.Op.pick (Go.Operand.tmp 99) (Go.Operand.tmp 102) (Go.Operand.const (Go.Value.bool false)), type := 4, pos := "law.go:157", after := #[{ on := 26, ground := Go.Ground.data }, { on := 29, ground := Go.Ground.data }], guard := none }) (v := ?_) rfl (by kernel_rfl) (by kernel_rfl) (by kernel_rfl) (fun _ _ _ h => h) (Or.inl ⟨by rfl, ?_⟩) (by assumption) ?_
                  rotate_left
                  · intro w hSw; (try dsimp only at hSw); (obtain ⟨s0, s1, s2, s3, s4⟩ := hSw); go_simp; (try with_reducible rfl)
                  try simp only [Act.put, List.setIfInBounds_toArray, List.set_cons_zero, List.set_cons_succ]
                  refine wpAnyH_take (i := 31) (oi := { dst := some 104, op := Go.Op.move (Go.Operand.tmp 103), type := 4, pos := "law.go:157", after := #[{ on := 30, ground := Go.Ground.data }, { on := 29, ground := Go.Ground.chain }], guard := none }) (v := ?_) rfl (by kernel_rfl) (by kernel_rfl) (by kernel_rfl) (fun _ _ _ h => h) (Or.inl ⟨by rfl, ?_⟩) (by assumption) ?_
                  rotate_left
                  · intro w hSw; (try dsimp only at hSw); (obtain ⟨s0, s1, s2, s3, s4⟩ := hSw); go_simp; (try with_reducible rfl)
                  try simp only [Act.put, List.setIfInBounds_toArray, List.set_cons_zero, List.set_cons_succ]
                  refine wpAnyH_take (i := 32) (oi := { dst := some 105, op := Go.Op.move (Go.Operand.tmp 8), type := 3, pos := "law.go:157", after := #[{ on := 31, ground := Go.Ground.guard }], guard := some (31, true) }) (v := undef) rfl (by kernel_rfl) (by kernel_rfl) (by kernel_rfl) (fun _ _ _ h => h) (Or.inr ⟨by kernel_rfl, rfl⟩) (by assumption) ?_
                  try simp only [Act.put, List.setIfInBounds_toArray, List.set_cons_zero, List.set_cons_succ]
                  refine wpAnyH_take (i := 33) (oi := { dst := some 106, op := Go.Op.binOp Go.BinOp.eql 3 (Go.Operand.tmp 105) (Go.Operand.const (Go.Value.int Go.IntKind.i64 0)) 3, type := 4, pos := "law.go:157", after := #[{ on := 32, ground := Go.Ground.data }, { on := 31, ground := Go.Ground.guard }], guard := some (31, true) }) (v := undef) rfl (by kernel_rfl) (by kernel_rfl) (by kernel_rfl) (fun _ _ _ h => h) (Or.inr ⟨by kernel_rfl, rfl⟩) (by assumption) ?_
                  try simp only [Act.put, List.setIfInBounds_toArray, List.set_cons_zero, List.set_cons_succ]
                  refine wpAnyH_take (i := 34) (oi := { dst := some 107, op := Go.Op.move (Go.Operand.tmp 106), type := 4, pos := "law.go:157", after := #[{ on := 33, ground := Go.Ground.data }, { on := 31, ground := Go.Ground.chain }, { on := 31, ground := Go.Ground.guard }], guard := some (31, true) }) (v := undef) rfl (by kernel_rfl) (by kernel_rfl) (by kernel_rfl) (fun _ _ _ h => h) (Or.inr ⟨by kernel_rfl, rfl⟩) (by assumption) ?_
                  try simp only [Act.put, List.setIfInBounds_toArray, List.set_cons_zero, List.set_cons_succ]
                  refine wpAnyH_take (i := 35) (oi := { dst := some 108, op := Go.Op.fieldAddr 28 (Go.Operand.tmp 9) 1, type := 0, pos := "law.go:157", after := #[{ on := 34, ground := Go.Ground.guard }], guard := some (34, false) }) (v := undef) rfl (by kernel_rfl) (by kernel_rfl) (by kernel_rfl) (fun _ _ _ h => h) (Or.inr ⟨by kernel_rfl, rfl⟩) (by assumption) ?_
                  try simp only [Act.put, List.setIfInBounds_toArray, List.set_cons_zero, List.set_cons_succ]
                  refine wpAnyH_take (i := 36) (oi := { dst := some 109, op := Go.Op.load 3 (Go.Operand.tmp 108), type := 3, pos := "law.go:157", after := #[{ on := 35, ground := Go.Ground.data }, { on := 34, ground := Go.Ground.guard }], guard := some (34, false) }) (v := undef) rfl (by kernel_rfl) (by kernel_rfl) (by kernel_rfl) (fun _ _ _ h => h) (Or.inr ⟨by kernel_rfl, rfl⟩) (by assumption) ?_
                  try simp only [Act.put, List.setIfInBounds_toArray, List.set_cons_zero, List.set_cons_succ]
                  refine wpAnyH_take (i := 37) (oi := { dst := some 110, op := Go.Op.fieldAddr 25 (Go.Operand.tmp 1) 2, type := 0, pos := "law.go:157", after := #[{ on := 34, ground := Go.Ground.guard }], guard := some (34, false) }) (v := undef) rfl (by kernel_rfl) (by kernel_rfl) (by kernel_rfl) (fun _ _ _ h => h) (Or.inr ⟨by kernel_rfl, rfl⟩) (by assumption) ?_
                  try simp only [Act.put, List.setIfInBounds_toArray, List.set_cons_zero, List.set_cons_succ]
                  refine wpAnyH_take (i := 38) (oi := { dst := some 111, op := Go.Op.load 23 (Go.Operand.tmp 110), type := 23, pos := "law.go:157", after := #[{ on := 37, ground := Go.Ground.data }, { on := 34, ground := Go.Ground.guard }], guard := some (34, false) }) (v := undef) rfl (by kernel_rfl) (by kernel_rfl) (by kernel_rfl) (fun _ _ _ h => h) (Or.inr ⟨by kernel_rfl, rfl⟩) (by assumption) ?_
                  try simp only [Act.put, List.setIfInBounds_toArray, List.set_cons_zero, List.set_cons_succ]
                  refine wpAnyH_take (i := 39) (oi := { dst := some 112, op := Go.Op.move (Go.Operand.tmp 8), type := 3, pos := "law.go:157", after := #[{ on := 34, ground := Go.Ground.guard }], guard := some (34, false) }) (v := undef) rfl (by kernel_rfl) (by kernel_rfl) (by kernel_rfl) (fun _ _ _ h => h) (Or.inr ⟨by kernel_rfl, rfl⟩) (by assumption) ?_
                  try simp only [Act.put, List.setIfInBounds_toArray, List.set_cons_zero, List.set_cons_succ]
                  refine wpAnyH_take (i := 40) (oi := { dst := some 113, op := Go.Op.binOp Go.BinOp.sub 3 (Go.Operand.tmp 112) (Go.Operand.const (Go.Value.int Go.IntKind.i64 1)) 3, type := 3, pos := "law.go:157", after := #[{ on := 39, ground := Go.Ground.data }, { on := 34, ground := Go.Ground.guard }], guard := some (34, false) }) (v := undef) rfl (by kernel_rfl) (by kernel_rfl) (by kernel_rfl) (fun _ _ _ h => h) (Or.inr ⟨by kernel_rfl, rfl⟩) (by assumption) ?_
                  try simp only [Act.put, List.setIfInBounds_toArray, List.set_cons_zero, List.set_cons_succ]
                  refine wpAnyH_take (i := 41) (oi := { dst := some 114, op := Go.Op.indexAddr 23 (Go.Operand.tmp 111) (Go.Operand.tmp 113), type := 0, pos := "law.go:157", after := #[{ on := 38, ground := Go.Ground.data }, { on := 40, ground := Go.Ground.data }, { on := 34, ground := Go.Ground.guard }], guard := some (34, false) }) (v := undef) rfl (by kernel_rfl) (by kernel_rfl) (by kernel_rfl) (fun _ _ _ h => h) (Or.inr ⟨by kernel_rfl, rfl⟩) (by assumption) ?_
                  try simp only [Act.put, List.setIfInBounds_toArray, List.set_cons_zero, List.set_cons_succ]
                  refine wpAnyH_take (i := 42) (oi := { dst := some 115, op := Go.Op.fieldAddr 28 (Go.Operand.tmp 114) 1, type := 0, pos := "law.go:157", after := #[{ on := 41, ground := Go.Ground.data }, { on := 34, ground := Go.Ground.guard }], guard := some (34, false) }) (v := undef) rfl (by kernel_rfl) (by kernel_rfl) (by kernel_rfl) (fun _ _ _ h => h) (Or.inr ⟨by kernel_rfl, rfl⟩) (by assumption) ?_
                  try simp only [Act.put, List.setIfInBounds_toArray, List.set_cons_zero, List.set_cons_succ]
                  refine wpAnyH_take (i := 43) (oi := { dst := some 116, op := Go.Op.load 3 (Go.Operand.tmp 115), type := 3, pos := "law.go:157", after := #[{ on := 42, ground := Go.Ground.data }, { on := 34, ground := Go.Ground.guard }], guard := some (34, false) }) (v := undef) rfl (by kernel_rfl) (by kernel_rfl) (by kernel_rfl) (fun _ _ _ h => h) (Or.inr ⟨by kernel_rfl, rfl⟩) (by assumption) ?_
                  try simp only [Act.put, List.setIfInBounds_toArray, List.set_cons_zero, List.set_cons_succ]
                  refine wpAnyH_take (i := 44) (oi := { dst := some 117, op := Go.Op.binOp Go.BinOp.geq 3 (Go.Operand.tmp 109) (Go.Operand.tmp 116) 3, type := 4, pos := "law.go:157", after := #[{ on := 36, ground := Go.Ground.data }, { on := 43, ground := Go.Ground.data }, { on := 34, ground := Go.Ground.guard }], guard := some (34, false) }) (v := undef) rfl (by kernel_rfl) (by kernel_rfl) (by kernel_rfl) (fun _ _ _ h => h) (Or.inr ⟨by kernel_rfl, rfl⟩) (by assumption) ?_
                  try simp only [Act.put, List.setIfInBounds_toArray, List.set_cons_zero, List.set_cons_succ]
                  refine wpAnyH_take (i := 45) (oi := { dst := some 118, op := Go.Op.pick (Go.Operand.tmp 107) (Go.Operand.const (Go.Value.bool true)) (Go.Operand.tmp 117), type := 4, pos := "law.go:157", after := #[{ on := 34, ground := Go.Ground.data }, { on := 44, ground := Go.Ground.data }, { on := 31, ground := Go.Ground.guard }], guard := some (31, true) }) (v := undef) rfl (by kernel_rfl) (by kernel_rfl) (by kernel_rfl) (fun _ _ _ h => h) (Or.inr ⟨by kernel_rfl, rfl⟩) (by assumption) ?_
                  try simp only [Act.put, List.setIfInBounds_toArray, List.set_cons_zero, List.set_cons_succ]
                  refine wpAnyH_take (i := 46) (oi := { dst := some 119, op := Go.Op.pick (Go.Operand.tmp 104) (Go.Operand.tmp 118) (Go.Operand.const (Go.Value.bool false)), type := 4, pos := "law.go:157", after := #[{ on := 31, ground := Go.Ground.data }, { on := 45, ground := Go.Ground.data }], guard := none }) (v := ?_) rfl (by kernel_rfl) (by kernel_rfl) (by kernel_rfl) (fun _ _ _ h => h) (Or.inl ⟨by rfl, ?_⟩) (by assumption) ?_
                  rotate_left
                  · intro w hSw; (try dsimp only at hSw); (obtain ⟨s0, s1, s2, s3, s4⟩ := hSw); go_simp; (try with_reducible rfl)
                  try simp only [Act.put, List.setIfInBounds_toArray, List.set_cons_zero, List.set_cons_succ]
                  refine wpAnyH_ready (rs := [47]) (by kernel_rfl) (by simp) ?_
                  refine AllReadyH.cons rfl (fun K hK => ?_) AllReadyH.nil
                  go_simp
                  refine hK.out _ _ (by (try dsimp only); exact S5) (fun hHeld => ?_)
                  clear hK K
                  try simp only [Act.put, List.setIfInBounds_toArray, List.set_cons_zero, List.set_cons_succ]
                  refine wpAnyH_done (by kernel_rfl) ?_ _

                  go_wp2
                  go_roundg (gk - 1)
                  case measure => omega
                  case rel => exact ⟨i + 1, by go_num, by rw [E2.out], by omega, by omega, HB5⟩
                | true =>
                  rw [k5] at HLR
                  by_cases k6 : i = 0
                  · have b6 : ((i : Int) == 0) = true := by rw [k6]; rfl
                    have K6 := Aside0.mk k6
                    clear k6
                    have E2 : Aside0 (gN q ws cs (i + 1) = true) := ⟨by rw [hN]; unfold condN; rw [HXE.out]; unfold maxSeq; rw [decide_eq_true KK1.out, decide_eq_true k2, decide_eq_true k3, decide_eq_true k4, k5, decide_eq_true K6.out]; simp⟩
                    have hu : Below (wr.alloc (.cells #[.int .i64 x.f0, .int .i64 x.f1, .slice A5 x.f2.length c5] 28)).heap.size (wr.alloc (.cells #[.int .i64 x.f0, .int .i64 x.f1, .slice A5 x.f2.length c5] 28)) (wr.alloc (.cells #[.int .i64 x.f0, .int .i64 x.f1, .slice A5 x.f2.length c5] 28)).drew := below_drew1 (Below.refl _ _)
                    have S0 : (fun W : World => W.cell? ⟨wr.heap.size, 0, none⟩ = some (.int .i64 x.f0) ∧ W.cell? ⟨wr.heap.size, 1, none⟩ = some (.int .i64 x.f1) ∧ W.cell? ⟨wr.heap.size, 2, none⟩ = some (.slice A5 x.f2.length c5) ∧ W.cell? ⟨w.heap.size, 0, none⟩ = some (.int .i64 q) ∧ W.cell? ⟨w.heap.size, 2, none⟩ = some (.slice (some ad5) cs.length c2)) (wr.alloc (.cells #[.int .i64 x.f0, .int .i64 x.f1, .slice A5 x.f2.length c5] 28)).drew := ⟨Tr.up hu d0, Tr.up hu d1, Tr.up hu d2, Tr.up hu y0, Tr.up hu y2⟩
                    clear hN k0 HP
                    go_wp2
                    refine wp_region_held_drew (S := (fun W : World => W.cell? ⟨wr.heap.size, 0, none⟩ = some (.int .i64 x.f0) ∧ W.cell? ⟨wr.heap.size, 1, none⟩ = some (.int .i64 x.f1) ∧ W.cell? ⟨wr.heap.size, 2, none⟩ = some (.slice A5 x.f2.length c5) ∧ W.cell? ⟨w.heap.size, 0, none⟩ = some (.int .i64 q) ∧ W.cell? ⟨w.heap.size, 2, none⟩ = some (.slice (some ad5) cs.length c2))) (by kernel_rfl) (by (try dsimp only); exact S0) (fun hHeld => ?_)
                    refine wpAnyH_take (i := 0) (oi := { dst := some 73, op := Go.Op.move (Go.Operand.tmp 5), type := 4, pos := "law.go:157", after := #[], guard := none }) (v := ?_) rfl (by kernel_rfl) (by kernel_rfl) (by kernel_rfl) (fun _ _ _ h => h) (Or.inl ⟨by rfl, ?_⟩) (by assumption) ?_
                    rotate_left
                    · intro w hSw; (try dsimp only at hSw); (obtain ⟨s0, s1, s2, s3, s4⟩ := hSw); go_simp; (try with_reducible rfl)
                    try simp only [Act.put, List.setIfInBounds_toArray, List.set_cons_zero, List.set_cons_succ]
                    refine wpAnyH_take (i := 1) (oi := { dst := some 74, op := Go.Op.move (Go.Operand.tmp 73), type := 4, pos := "law.go:157", after := #[{ on := 0, ground := Go.Ground.data }], guard := none }) (v := ?_) rfl (by kernel_rfl) (by kernel_rfl) (by kernel_rfl) (fun _ _ _ h => h) (Or.inl ⟨by rfl, ?_⟩) (by assumption) ?_
                    rotate_left
                    · intro w hSw; (try dsimp only at hSw); (obtain ⟨s0, s1, s2, s3, s4⟩ := hSw); go_simp; (try with_reducible rfl)
                    try simp only [Act.put, List.setIfInBounds_toArray, List.set_cons_zero, List.set_cons_succ]
                    refine wpAnyH_take (i := 2) (oi := { dst := some 75, op := Go.Op.fieldAddr 28 (Go.Operand.tmp 9) 0, type := 0, pos := "law.go:157", after := #[{ on := 1, ground := Go.Ground.guard }], guard := some (1, true) }) (v := ?_) rfl (by kernel_rfl) (by kernel_rfl) (by kernel_rfl) (fun _ _ _ h => h) (Or.inl ⟨by rfl, ?_⟩) (by assumption) ?_
                    rotate_left
                    · intro w hSw; (try dsimp only at hSw); (obtain ⟨s0, s1, s2, s3, s4⟩ := hSw); go_simp; (try with_reducible rfl)
                    try simp only [Act.put, List.setIfInBounds_toArray, List.set_cons_zero, List.set_cons_succ]
                    refine wpAnyH_take (i := 3) (oi := { dst := some 76, op := Go.Op.load 3 (Go.Operand.tmp 75), type := 3, pos := "law.go:157", after := #[{ on := 2, ground := Go.Ground.data }, { on := 1, ground := Go.Ground.guard }], guard := some (1, true) }) (v := ?_) rfl (by kernel_rfl) (by kernel_rfl) (by kernel_rfl) (fun _ _ _ h => h) (Or.inl ⟨by rfl, ?_⟩) (by assumption) ?_
                    rotate_left
                    · intro w hSw; (try dsimp only at hSw); (obtain ⟨s0, s1, s2, s3, s4⟩ := hSw); go_simp; (try with_reducible rfl)
                    try simp only [Act.put, List.setIfInBounds_toArray, List.set_cons_zero, List.set_cons_succ]
                    refine wpAnyH_take (i := 4) (oi := { dst := some 77, op := Go.Op.fieldAddr 25 (Go.Operand.tmp 1) 0, type := 0, pos := "law.go:157", after := #[{ on := 1, ground := Go.Ground.guard }], guard := some (1, true) }) (v := ?_) rfl (by kernel_rfl) (by kernel_rfl) (by kernel_rfl) (fun _ _ _ h => h) (Or.inl ⟨by rfl, ?_⟩) (by assumption) ?_
                    rotate_left
                    · intro w hSw; (try dsimp only at hSw); (obtain ⟨s0, s1, s2, s3, s4⟩ := hSw); go_simp; (try with_reducible rfl)
                    try simp only [Act.put, List.setIfInBounds_toArray, List.set_cons_zero, List.set_cons_succ]
                    refine wpAnyH_take (i := 5) (oi := { dst := some 78, op := Go.Op.load 3 (Go.Operand.tmp 77), type := 3, pos := "law.go:157", after := #[{ on := 4, ground := Go.Ground.data }, { on := 1, ground := Go.Ground.guard }], guard := some (1, true) }) (v := ?_) rfl (by kernel_rfl) (by kernel_rfl) (by kernel_rfl) (fun _ _ _ h => h) (Or.inl ⟨by rfl, ?_⟩) (by assumption) ?_
                    rotate_left
                    · intro w hSw; (try dsimp only at hSw); (obtain ⟨s0, s1, s2, s3, s4⟩ := hSw); go_simp; (try with_reducible rfl)
                    try simp only [Act.put, List.setIfInBounds_toArray, List.set_cons_zero, List.set_cons_succ]
                    refine wpAnyH_take (i := 6) (oi := { dst := some 79, op := Go.Op.binOp Go.BinOp.add 3 (Go.Operand.tmp 78) (Go.Operand.const (Go.Value.int Go.IntKind.i64 1)) 3, type := 3, pos := "law.go:157", after := #[{ on := 5, ground := Go.Ground.data }, { on := 1, ground := Go.Ground.guard }], guard := some (1, true) }) (v := ?_) rfl (by kernel_rfl) (by kernel_rfl) (by kernel_rfl) (fun _ _ _ h => h) (Or.inl ⟨by rfl, ?_⟩) (by assumption) ?_
                    rotate_left
                    · intro w hSw; (try dsimp only at hSw); (obtain ⟨s0, s1, s2, s3, s4⟩ := hSw); go_simp; (try with_reducible rfl)
                    try simp only [Act.put, List.setIfInBounds_toArray, List.set_cons_zero, List.set_cons_succ]
                    refine wpAnyH_take (i := 7) (oi := { dst := some 80, op := Go.Op.move (Go.Operand.tmp 8), type := 3, pos := "law.go:157", after := #[{ on := 1, ground := Go.Ground.guard }], guard := some (1, true) }) (v := ?_) rfl (by kernel_rfl) (by kernel_rfl) (by kernel_rfl) (fun _ _ _ h => h) (Or.inl ⟨by rfl, ?_⟩) (by assumption) ?_
                    rotate_left
                    · intro w hSw; (try dsimp only at hSw); (obtain ⟨s0, s1, s2, s3, s4⟩ := hSw); go_simp; (try with_reducible rfl)
                    try simp only [Act.put, List.setIfInBounds_toArray, List.set_cons_zero, List.set_cons_succ]
                    refine wpAnyH_take (i := 8) (oi := { dst := some 81, op := Go.Op.binOp Go.BinOp.add 3 (Go.Operand.tmp 79) (Go.Operand.tmp 80) 3, type := 3, pos := "law.go:157", after := #[{ on := 6, ground := Go.Ground.data }, { on := 7, ground := Go.Ground.data }, { on := 1, ground := Go.Ground.guard }], guard := some (1, true) }) (v := ?_) rfl (by kernel_rfl) (by kernel_rfl) (by kernel_rfl) (fun _ _ _ h => h) (Or.inl ⟨by rfl, ?_⟩) (by assumption) ?_
                    rotate_left
                    · intro w hSw; (try dsimp only at hSw); (obtain ⟨s0, s1, s2, s3, s4⟩ := hSw); go_simp; (try with_reducible rfl)
                    try simp only [Act.put, List.setIfInBounds_toArray, List.set_cons_zero, List.set_cons_succ]
                    refine wpAnyH_take (i := 9) (oi := { dst := some 82, op := Go.Op.binOp Go.BinOp.eql 3 (Go.Operand.tmp 76) (Go.Operand.tmp 81) 3, type := 4, pos := "law.go:157", after := #[{ on := 3, ground := Go.Ground.data }, { on := 8, ground := Go.Ground.data }, { on := 1, ground := Go.Ground.guard }], guard := some (1, true) }) (v := ?_) rfl (by kernel_rfl) (by kernel_rfl) (by kernel_rfl) (fun _ _ _ h => h) (Or.inl ⟨by rfl, ?_⟩) (by assumption) ?_
                    rotate_left
                    · intro w hSw; (try dsimp only at hSw); (obtain ⟨s0, s1, s2, s3, s4⟩ := hSw); go_simp; (try with_reducible rfl)
                    try simp only [Act.put, List.setIfInBounds_toArray, List.set_cons_zero, List.set_cons_succ]
                    refine wpAnyH_take (i := 10) (oi := { dst := some 83, op := Go.Op.pick (Go.Operand.tmp 74) (Go.Operand.tmp 82) (Go.Operand.const (Go.Value.bool false)), type := 4, pos := "law.go:157", after := #[{ on := 1, ground := Go.Ground.data }, { on := 9, ground := Go.Ground.data }], guard := none }) (v := ?_) rfl (by kernel_rfl) (by kernel_rfl) (by kernel_rfl) (fun _ _ _ h => h) (Or.inl ⟨by rfl, ?_⟩) (by assumption) ?_
                    rotate_left
                    · intro w hSw; (try dsimp only at hSw); (obtain ⟨s0, s1, s2, s3, s4⟩ := hSw); go_simp; (try with_reducible rfl)
                    try simp only [Act.put, List.setIfInBounds_toArray, List.set_cons_zero, List.set_cons_succ]
                    refine wpAnyH_take (i := 11) (oi := { dst := some 84, op := Go.Op.move (Go.Operand.tmp 83), type := 4, pos := "law.go:157", after := #[{ on := 10, ground := Go.Ground.data }, { on := 1, ground := Go.Ground.chain }], guard := none }) (v := ?_) rfl (by kernel_rfl) (by kernel_rfl) (by kernel_rfl) (fun _ _ _ h => h) (Or.inl ⟨by rfl, ?_⟩) (by assumption) ?_
                    rotate_left
                    · intro w hSw; (try dsimp only at hSw); (obtain ⟨s0, s1, s2, s3, s4⟩ := hSw); go_simp; (try with_reducible rfl)
                    try simp only [Act.put, List.setIfInBounds_toArray, List.set_cons_zero, List.set_cons_succ]
                    refine wpAnyH_take (i := 12) (oi := { dst := some 85, op := Go.Op.fieldAddr 28 (Go.Operand.tmp 9) 0, type := 0, pos := "law.go:157", after := #[{ on := 11, ground := Go.Ground.guard }], guard := some (11, true) }) (v := ?_) rfl (by kernel_rfl) (by kernel_rfl) (by kernel_rfl) (fun _ _ _ h => h) (Or.inl ⟨by rfl, ?_⟩) (by assumption) ?_
                    rotate_left
                    · intro w hSw; (try dsimp only at hSw); (obtain ⟨s0, s1, s2, s3, s4⟩ := hSw); go_simp; (try with_reducible rfl)
                    try simp only [Act.put, List.setIfInBounds_toArray, List.set_cons_zero, List.set_cons_succ]
                    refine wpAnyH_take (i := 13) (oi := { dst := some 86, op := Go.Op.load 3 (Go.Operand.tmp 85), type := 3, pos := "law.go:157", after := #[{ on := 12, ground := Go.Ground.data }, { on := 11, ground := Go.Ground.guard }], guard := some (11, true) }) (v := ?_) rfl (by kernel_rfl) (by kernel_rfl) (by kernel_rfl) (fun _ _ _ h => h) (Or.inl ⟨by rfl, ?_⟩) (by assumption) ?_
                    rotate_left
                    · intro w hSw; (try dsimp only at hSw); (obtain ⟨s0, s1, s2, s3, s4⟩ := hSw); go_simp; (try with_reducible rfl)
                    try simp only [Act.put, List.setIfInBounds_toArray, List.set_cons_zero, List.set_cons_succ]
                    refine wpAnyH_take (i := 14) (oi := { dst := some 87, op := Go.Op.binOp Go.BinOp.leq 3 (Go.Operand.tmp 86) (Go.Operand.const (Go.Value.int Go.IntKind.i64 1099511627776)) 3, type := 4, pos := "law.go:157", after := #[{ on := 13, ground := Go.Ground.data }, { on := 11, ground := Go.Ground.guard }], guard := some (11, true) }) (v := ?_) rfl (by kernel_rfl) (by kernel_rfl) (by kernel_rfl) (fun _ _ _ h => h) (Or.inl ⟨by rfl, ?_⟩) (by assumption) ?_
                    rotate_left
                    · intro w hSw; (try dsimp only at hSw); (obtain ⟨s0, s1, s2, s3, s4⟩ := hSw); go_simp; (try with_reducible rfl)
                    try simp only [Act.put, List.setIfInBounds_toArray, List.set_cons_zero, List.set_cons_succ]
                    refine wpAnyH_take (i := 15) (oi := { dst := some 88, op := Go.Op.pick (Go.Operand.tmp 84) (Go.Operand.tmp 87) (Go.Operand.const (Go.Value.bool false)), type := 4, pos := "law.go:157", after := #[{ on := 11, ground := Go.Ground.data }, { on := 14, ground := Go.Ground.data }], guard := none }) (v := ?_) rfl (by kernel_rfl) (by kernel_rfl) (by kernel_rfl) (fun _ _ _ h => h) (Or.inl ⟨by rfl, ?_⟩) (by assumption) ?_
                    rotate_left
                    · intro w hSw; (try dsimp only at hSw); (obtain ⟨s0, s1, s2, s3, s4⟩ := hSw); go_simp; (try with_reducible rfl)
                    try simp only [Act.put, List.setIfInBounds_toArray, List.set_cons_zero, List.set_cons_succ]
                    refine wpAnyH_take (i := 16) (oi := { dst := some 89, op := Go.Op.move (Go.Operand.tmp 88), type := 4, pos := "law.go:157", after := #[{ on := 15, ground := Go.Ground.data }, { on := 11, ground := Go.Ground.chain }], guard := none }) (v := ?_) rfl (by kernel_rfl) (by kernel_rfl) (by kernel_rfl) (fun _ _ _ h => h) (Or.inl ⟨by rfl, ?_⟩) (by assumption) ?_
                    rotate_left
                    · intro w hSw; (try dsimp only at hSw); (obtain ⟨s0, s1, s2, s3, s4⟩ := hSw); go_simp; (try with_reducible rfl)
                    try simp only [Act.put, List.setIfInBounds_toArray, List.set_cons_zero, List.set_cons_succ]
                    refine wpAnyH_take (i := 17) (oi := { dst := some 90, op := Go.Op.fieldAddr 28 (Go.Operand.tmp 9) 1, type := 0, pos := "law.go:157", after := #[{ on := 16, ground := Go.Ground.guard }], guard := some (16, true) }) (v := ?_) rfl (by kernel_rfl) (by kernel_rfl) (by kernel_rfl) (fun _ _ _ h => h) (Or.inl ⟨by rfl, ?_⟩) (by assumption) ?_
                    rotate_left
                    · intro w hSw; (try dsimp only at hSw); (obtain ⟨s0, s1, s2, s3, s4⟩ := hSw); go_simp; (try with_reducible rfl)
                    try simp only [Act.put, List.setIfInBounds_toArray, List.set_cons_zero, List.set_cons_succ]
                    refine wpAnyH_take (i := 18) (oi := { dst := some 91, op := Go.Op.load 3 (Go.Operand.tmp 90), type := 3, pos := "law.go:157", after := #[{ on := 17, ground := Go.Ground.data }, { on := 16, ground := Go.Ground.guard }], guard := some (16, true) }) (v := ?_) rfl (by kernel_rfl) (by kernel_rfl) (by kernel_rfl) (fun _ _ _ h => h) (Or.inl ⟨by rfl, ?_⟩) (by assumption) ?_
                    rotate_left
                    · intro w hSw; (try dsimp only at hSw); (obtain ⟨s0, s1, s2, s3, s4⟩ := hSw); go_simp; (try with_reducible rfl)
                    try simp only [Act.put, List.setIfInBounds_toArray, List.set_cons_zero, List.set_cons_succ]
                    refine wpAnyH_take (i := 19) (oi := { dst := some 92, op := Go.Op.binOp Go.BinOp.geq 3 (Go.Operand.tmp 91) (Go.Operand.const (Go.Value.int Go.IntKind.i64 0)) 3, type := 4, pos := "law.go:157", after := #[{ on := 18, ground := Go.Ground.data }, { on := 16, ground := Go.Ground.guard }], guard := some (16, true) }) (v := ?_) rfl (by kernel_rfl) (by kernel_rfl) (by kernel_rfl) (fun _ _ _ h => h) (Or.inl ⟨by rfl, ?_⟩) (by assumption) ?_
                    rotate_left
                    · intro w hSw; (try dsimp only at hSw); (obtain ⟨s0, s1, s2, s3, s4⟩ := hSw); go_simp; (try with_reducible rfl)
                    try simp only [Act.put, List.setIfInBounds_toArray, List.set_cons_zero, List.set_cons_succ]
                    refine wpAnyH_take (i := 20) (oi := { dst := some 93, op := Go.Op.pick (Go.Operand.tmp 89) (Go.Operand.tmp 92) (Go.Operand.const (Go.Value.bool false)), type := 4, pos := "law.go:157", after := #[{ on := 16, ground := Go.Ground.data }, { on := 19, ground := Go.Ground.data }], guard := none }) (v := ?_) rfl (by kernel_rfl) (by kernel_rfl) (by kernel_rfl) (fun _ _ _ h => h) (Or.inl ⟨by rfl, ?_⟩) (by assumption) ?_
                    rotate_left
                    · intro w hSw; (try dsimp only at hSw); (obtain ⟨s0, s1, s2, s3, s4⟩ := hSw); go_simp; (try with_reducible rfl)
                    try simp only [Act.put, List.setIfInBounds_toArray, List.set_cons_zero, List.set_cons_succ]
                    refine wpAnyH_take (i := 21) (oi := { dst := some 94, op := Go.Op.move (Go.Operand.tmp 93), type := 4, pos := "law.go:157", after := #[{ on := 20, ground := Go.Ground.data }, { on := 16, ground := Go.Ground.chain }], guard := none }) (v := ?_) rfl (by kernel_rfl) (by kernel_rfl) (by kernel_rfl) (fun _ _ _ h => h) (Or.inl ⟨by rfl, ?_⟩) (by assumption) ?_
                    rotate_left
                    · intro w hSw; (try dsimp only at hSw); (obtain ⟨s0, s1, s2, s3, s4⟩ := hSw); go_simp; (try with_reducible rfl)
                    try simp only [Act.put, List.setIfInBounds_toArray, List.set_cons_zero, List.set_cons_succ]
                    refine wpAnyH_take (i := 22) (oi := { dst := some 95, op := Go.Op.fieldAddr 28 (Go.Operand.tmp 9) 1, type := 0, pos := "law.go:157", after := #[{ on := 21, ground := Go.Ground.guard }], guard := some (21, true) }) (v := ?_) rfl (by kernel_rfl) (by kernel_rfl) (by kernel_rfl) (fun _ _ _ h => h) (Or.inl ⟨by rfl, ?_⟩) (by assumption) ?_
                    rotate_left
                    · intro w hSw; (try dsimp only at hSw); (obtain ⟨s0, s1, s2, s3, s4⟩ := hSw); go_simp; (try with_reducible rfl)
                    try simp only [Act.put, List.setIfInBounds_toArray, List.set_cons_zero, List.set_cons_succ]
                    refine wpAnyH_take (i := 23) (oi := { dst := some 96, op := Go.Op.load 3 (Go.Operand.tmp 95), type := 3, pos := "law.go:157", after := #[{ on := 22, ground := Go.Ground.data }, { on := 21, ground := Go.Ground.guard }], guard := some (21, true) }) (v := ?_) rfl (by kernel_rfl) (by kernel_rfl) (by kernel_rfl) (fun _ _ _ h => h) (Or.inl ⟨by rfl, ?_⟩) (by assumption) ?_
                    rotate_left
                    · intro w hSw; (try dsimp only at hSw); (obtain ⟨s0, s1, s2, s3, s4⟩ := hSw); go_simp; (try with_reducible rfl)
                    try simp only [Act.put, List.setIfInBounds_toArray, List.set_cons_zero, List.set_cons_succ]
                    refine wpAnyH_take (i := 24) (oi := { dst := some 97, op := Go.Op.binOp Go.BinOp.leq 3 (Go.Operand.tmp 96) (Go.Operand.const (Go.Value.int Go.IntKind.i64 1099511627776)) 3, type := 4, pos := "law.go:157", after := #[{ on := 23, ground := Go.Ground.data }, { on := 21, ground := Go.Ground.guard }], guard := some (21, true) }) (v := ?_) rfl (by kernel_rfl) (by kernel_rfl) (by kernel_rfl) (fun _ _ _ h => h) (Or.inl ⟨by rfl, ?_⟩) (by assumption) ?_
                    rotate_left
                    · intro w hSw; (try dsimp only at hSw); (obtain ⟨s0, s1, s2, s3, s4⟩ := hSw); go_simp; (try with_reducible rfl)
                    try simp only [Act.put, List.setIfInBounds_toArray, List.set_cons_zero, List.set_cons_succ]
                    refine wpAnyH_take (i := 25) (oi := { dst := some 98, op := Go.Op.pick (Go.Operand.tmp 94) (Go.Operand.tmp 97) (Go.Operand.const (Go.Value.bool false)), type := 4, pos := "law.go:157", after := #[{ on := 21, ground := Go.Ground.data }, { on := 24, ground := Go.Ground.data }], guard := none }) (v := ?_) rfl (by kernel_rfl) (by kernel_rfl) (by kernel_rfl) (fun _ _ _ h => h) (Or.inl ⟨by rfl, ?_⟩) (by assumption) ?_
                    rotate_left
                    · intro w hSw; (try dsimp only at hSw); (obtain ⟨s0, s1, s2, s3, s4⟩ := hSw); go_simp; (try with_reducible rfl)
                    try simp only [Act.put, List.setIfInBounds_toArray, List.set_cons_zero, List.set_cons_succ]
                    refine wpAnyH_take (i := 26) (oi := { dst := some 99, op := Go.Op.move (Go.Operand.tmp 98), type := 4, pos := "law.go:157", after := #[{ on := 25, ground := Go.Ground.data }, { on := 21, ground := Go.Ground.chain }], guard := none }) (v := ?_) rfl (by kernel_rfl) (by kernel_rfl) (by kernel_rfl) (fun _ _ _ h => h) (Or.inl ⟨by rfl, ?_⟩) (by assumption) ?_
                    rotate_left
                    · intro w hSw; (try dsimp only at hSw); (obtain ⟨s0, s1, s2, s3, s4⟩ := hSw); go_simp; (try with_reducible rfl)
                    try simp only [Act.put, List.setIfInBounds_toArray, List.set_cons_zero, List.set_cons_succ]
                    refine wpAnyH_take (i := 27) (oi := { dst := some 100, op := Go.Op.fieldAddr 28 (Go.Operand.tmp 9) 2, type := 0, pos := "law.go:157", after := #[{ on := 26, ground := Go.Ground.guard }], guard := some (26, true) }) (v := ?_) rfl (by kernel_rfl) (by kernel_rfl) (by kernel_rfl) (fun _ _ _ h => h) (Or.inl ⟨by rfl, ?_⟩) (by assumption) ?_
                    rotate_left
                    · intro w hSw; (try dsimp only at hSw); (obtain ⟨s0, s1, s2, s3, s4⟩ := hSw); go_simp; (try with_reducible rfl)
                    try simp only [Act.put, List.setIfInBounds_toArray, List.set_cons_zero, List.set_cons_succ]
                    refine wpAnyH_take (i := 28) (oi := { dst := some 101, op := Go.Op.load 22 (Go.Operand.tmp 100), type := 22, pos := "law.go:157", after := #[{ on := 27, ground := Go.Ground.data }, { on := 26, ground := Go.Ground.guard }], guard := some (26, true) }) (v := ?_) rfl (by kernel_rfl) (by kernel_rfl) (by kernel_rfl) (fun _ _ _ h => h) (Or.inl ⟨by rfl, ?_⟩) (by assumption) ?_
                    rotate_left
                    · intro w hSw; (try dsimp only at hSw); (obtain ⟨s0, s1, s2, s3, s4⟩ := hSw); go_simp; (try with_reducible rfl)
                    try simp only [Act.put, List.setIfInBounds_toArray, List.set_cons_zero, List.set_cons_succ]
                    refine wpAnyH_ready (rs := [29]) (by kernel_rfl) (by simp) ?_
                    refine AllReadyH.cons rfl (fun K hK => ?_) AllReadyH.nil
                    go_simp
                    refine (HLR.out _ (below_drew1 (below_alloc (Below.refl _ _) _))).mono ?_
                    rintro e w5 ⟨rfl, hb⟩
                    have hb' : Below (wr.alloc (.cells #[.int .i64 x.f0, .int .i64 x.f1, .slice A5 x.f2.length c5] 28)).heap.size (wr.alloc (.cells #[.int .i64 x.f0, .int .i64 x.f1, .slice A5 x.f2.length c5] 28)) w5 := below_step hu hb
                    have S5 : (fun W : World => W.cell? ⟨wr.heap.size, 0, none⟩ = some (.int .i64 x.f0) ∧ W.cell? ⟨wr.heap.size, 1, none⟩ = some (.int .i64 x.f1) ∧ W.cell? ⟨wr.heap.size, 2, none⟩ = some (.slice A5 x.f2.length c5) ∧ W.cell? ⟨w.heap.size, 0, none⟩ = some (.int .i64 q) ∧ W.cell? ⟨w.heap.size, 2, none⟩ = some (.slice (some ad5) cs.length c2)) w5 := ⟨Tr.up hb' d0, Tr.up hb' d1, Tr.up hb' d2, Tr.up hb' y0, Tr.up hb' y2⟩
                    have HB5 := Aside0.mk (below_step (below_alloc HB.out _) hb')
                    clear hb hb'
                    go_simp
                    refine hK.out _ _ (by (try dsimp only); exact S5) (fun hHeld => ?_)
                    clear hK K
                    try simp only [Act.put, List.setIfInBounds_toArray, List.set_cons_zero, List.set_cons_succ]
                    refine wpAnyH_take (i := 30) (oi := { dst := some 103, op := Go.Op.pick (Go.Operand.tmp 99) (Go.Operand.tmp 102) (Go.Operand.const (Go.Value.bool false)), type := 4, pos := "law.go:157", after := #[{ on := 26, ground := Go.Ground.data }, { on := 29, ground := Go.Ground.data }], guard := none }) (v := ?_) rfl (by kernel_rfl) (by kernel_rfl) (by kernel_rfl) (fun _ _ _ h => h) (Or.inl ⟨by rfl, ?_⟩) (by assumption) ?_
                    rotate_left
                    · intro w hSw; (try dsimp only at hSw); (obtain ⟨s0, s1, s2, s3, s4⟩ := hSw); go_simp; (try with_reducible rfl)
                    try simp only [Act.put, List.setIfInBounds_toArray, List.set_cons_zero, List.set_cons_succ]
                    refine wpAnyH_take (i := 31) (oi := { dst := some 104, op := Go.Op.move (Go.Operand.tmp 103), type := 4, pos := "law.go:157", after := #[{ on := 30, ground := Go.Ground.data }, { on := 29, ground := Go.Ground.chain }], guard := none }) (v := ?_) rfl (by kernel_rfl) (by kernel_rfl) (by kernel_rfl) (fun _ _ _ h => h) (Or.inl ⟨by rfl, ?_⟩) (by assumption) ?_
                    rotate_left
                    · intro w hSw; (try dsimp only at hSw); (obtain ⟨s0, s1, s2, s3, s4⟩ := hSw); go_simp; (try with_reducible rfl)
                    try simp only [Act.put, List.setIfInBounds_toArray, List.set_cons_zero, List.set_cons_succ]
                    refine wpAnyH_take (i := 32) (oi := { dst := some 105, op := Go.Op.move (Go.Operand.tmp 8), type := 3, pos := "law.go:157", after := #[{ on := 31, ground := Go.Ground.guard }], guard := some (31, true) }) (v := ?_) rfl (by kernel_rfl) (by kernel_rfl) (by kernel_rfl) (fun _ _ _ h => h) (Or.inl ⟨by rfl, ?_⟩) (by assumption) ?_
                    rotate_left
                    · intro w hSw; (try dsimp only at hSw); (obtain ⟨s0, s1, s2, s3, s4⟩ := hSw); go_simp; (try with_reducible rfl)
                    try simp only [Act.put, List.setIfInBounds_toArray, List.set_cons_zero, List.set_cons_succ]
                    refine wpAnyH_take (i := 33) (oi := { dst := some 106, op := Go.Op.binOp Go.BinOp.eql 3 (Go.Operand.tmp 105) (Go.Operand.const (Go.Value.int Go.IntKind.i64 0)) 3, type := 4, pos := "law.go:157", after := #[{ on := 32, ground := Go.Ground.data }, { on := 31, ground := Go.Ground.guard }], guard := some (31, true) }) (v := ?_) rfl (by kernel_rfl) (by kernel_rfl) (by kernel_rfl) (fun _ _ _ h => h) (Or.inl ⟨by rfl, ?_⟩) (by assumption) ?_
                    rotate_left
                    · intro w hSw; (try dsimp only at hSw); (obtain ⟨s0, s1, s2, s3, s4⟩ := hSw); go_simp; (try with_reducible rfl)
                    try simp only [Act.put, List.setIfInBounds_toArray, List.set_cons_zero, List.set_cons_succ]
                    refine wpAnyH_take (i := 34) (oi := { dst := some 107, op := Go.Op.move (Go.Operand.tmp 106), type := 4, pos := "law.go:157", after := #[{ on := 33, ground := Go.Ground.data }, { on := 31, ground := Go.Ground.chain }, { on := 31, ground := Go.Ground.guard }], guard := some (31, true) }) (v := ?_) rfl (by kernel_rfl) (by kernel_rfl) (by kernel_rfl) (fun _ _ _ h => h) (Or.inl ⟨by rfl, ?_⟩) (by assumption) ?_
                    rotate_left
                    · intro w hSw; (try dsimp only at hSw); (obtain ⟨s0, s1, s2, s3, s4⟩ := hSw); go_simp; (try with_reducible rfl)
                    try simp only [Act.put, List.setIfInBounds_toArray, List.set_cons_zero, List.set_cons_succ]
                    refine wpAnyH_take (i := 35) (oi := { dst := some 108, op := Go.Op.fieldAddr 28 (Go.Operand.tmp 9) 1, type := 0, pos := "law.go:157", after := #[{ on := 34, ground := Go.Ground.guard }], guard := some (34, false) }) (v := undef) rfl (by kernel_rfl) (by kernel_rfl) (by kernel_rfl) (fun _ _ _ h => h) (Or.inr ⟨by kernel_rfl, rfl⟩) (by assumption) ?_
                    try simp only [Act.put, List.setIfInBounds_toArray, List.set_cons_zero, List.set_cons_succ]
                    refine wpAnyH_take (i := 36) (oi := { dst := some 109, op := Go.Op.load 3 (Go.Operand.tmp 108), type := 3, pos := "law.go:157", after := #[{ on := 35, ground := Go.Ground.data }, { on := 34, ground := Go.Ground.guard }], guard := some (34, false) }) (v := undef) rfl (by kernel_rfl) (by kernel_rfl) (by kernel_rfl) (fun _ _ _ h => h) (Or.inr ⟨by kernel_rfl, rfl⟩) (by assumption) ?_
                    try simp only [Act.put, List.setIfInBounds_toArray, List.set_cons_zero, List.set_cons_succ]
                    refine wpAnyH_take (i := 37) (oi := { dst := some 110, op := Go.Op.fieldAddr 25 (Go.Operand.tmp 1) 2, type := 0, pos := "law.go:157", after := #[{ on := 34, ground := Go.Ground.guard }], guard := some (34, false) }) (v := undef) rfl (by kernel_rfl) (by kernel_rfl) (by kernel_rfl) (fun _ _ _ h => h) (Or.inr ⟨by kernel_rfl, rfl⟩) (by assumption) ?_
                    try simp only [Act.put, List.setIfInBounds_toArray, List.set_cons_zero, List.set_cons_succ]
                    refine wpAnyH_take (i := 38) (oi := { dst := some 111, op := Go.Op.load 23 (Go.Operand.tmp 110), type := 23, pos := "law.go:157", after := #[{ on := 37, ground := Go.Ground.data }, { on := 34, ground := Go.Ground.guard }], guard := some (34, false) }) (v := undef) rfl (by kernel_rfl) (by kernel_rfl) (by kernel_rfl) (fun _ _ _ h => h) (Or.inr ⟨by kernel_rfl, rfl⟩) (by assumption) ?_
                    try simp only [Act.put, List.setIfInBounds_toArray, List.set_cons_zero, List.set_cons_succ]
                    refine wpAnyH_take (i := 39) (oi := { dst := some 112, op := Go.Op.move (Go.Operand.tmp 8), type := 3, pos := "law.go:157", after := #[{ on := 34, ground := Go.Ground.guard }], guard := some (34, false) }) (v := undef) rfl (by kernel_rfl) (by kernel_rfl) (by kernel_rfl) (fun _ _ _ h => h) (Or.inr ⟨by kernel_rfl, rfl⟩) (by assumption) ?_
                    try simp only [Act.put, List.setIfInBounds_toArray, List.set_cons_zero, List.set_cons_succ]
                    refine wpAnyH_take (i := 40) (oi := { dst := some 113, op := Go.Op.binOp Go.BinOp.sub 3 (Go.Operand.tmp 112) (Go.Operand.const (Go.Value.int Go.IntKind.i64 1)) 3, type := 3, pos := "law.go:157", after := #[{ on := 39, ground := Go.Ground.data }, { on := 34, ground := Go.Ground.guard }], guard := some (34, false) }) (v := undef) rfl (by kernel_rfl) (by kernel_rfl) (by kernel_rfl) (fun _ _ _ h => h) (Or.inr ⟨by kernel_rfl, rfl⟩) (by assumption) ?_
                    try simp only [Act.put, List.setIfInBounds_toArray, List.set_cons_zero, List.set_cons_succ]
                    refine wpAnyH_take (i := 41) (oi := { dst := some 114, op := Go.Op.indexAddr 23 (Go.Operand.tmp 111) (Go.Operand.tmp 113), type := 0, pos := "law.go:157", after := #[{ on := 38, ground := Go.Ground.data }, { on := 40, ground := Go.Ground.data }, { on := 34, ground := Go.Ground.guard }], guard := some (34, false) }) (v := undef) rfl (by kernel_rfl) (by kernel_rfl) (by kernel_rfl) (fun _ _ _ h => h) (Or.inr ⟨by kernel_rfl, rfl⟩) (by assumption) ?_
                    try simp only [Act.put, List.setIfInBounds_toArray, List.set_cons_zero, List.set_cons_succ]
                    refine wpAnyH_take (i := 42) (oi := { dst := some 115, op := Go.Op.fieldAddr 28 (Go.Operand.tmp 114) 1, type := 0, pos := "law.go:157", after := #[{ on := 41, ground := Go.Ground.data }, { on := 34, ground := Go.Ground.guard }], guard := some (34, false) }) (v := undef) rfl (by kernel_rfl) (by kernel_rfl) (by kernel_rfl) (fun _ _ _ h => h) (Or.inr ⟨by kernel_rfl, rfl⟩) (by assumption) ?_
                    try simp only [Act.put, List.setIfInBounds_toArray, List.set_cons_zero, List.set_cons_succ]
                    refine wpAnyH_take (i := 43) (oi := { dst := some 116, op := Go.Op.load 3 (Go.Operand.tmp 115), type := 3, pos := "law.go:157", after := #[{ on := 42, ground := Go.Ground.data }, { on := 34, ground := Go.Ground.guard }], guard := some (34, false) }) (v := undef) rfl (by kernel_rfl) (by kernel_rfl) (by kernel_rfl) (fun _ _ _ h => h) (Or.inr ⟨by kernel_rfl, rfl⟩) (by assumption) ?_
                    try simp only [Act.put, List.setIfInBounds_toArray, List.set_cons_zero, List.set_cons_succ]
                    refine wpAnyH_take (i := 44) (oi := { dst := some 117, op := Go.Op.binOp Go.BinOp.geq 3 (Go.Operand.tmp 109) (Go.Operand.tmp 116) 3, type := 4, pos := "law.go:157", after := #[{ on := 36, ground := Go.Ground.data }, { on := 43, ground := Go.Ground.data }, { on := 34, ground := Go.Ground.guard }], guard := some (34, false) }) (v := undef) rfl (by kernel_rfl) (by kernel_rfl) (by kernel_rfl) (fun _ _ _ h => h) (Or.inr ⟨by kernel_rfl, rfl⟩) (by assumption) ?_
                    try simp only [Act.put, List.setIfInBounds_toArray, List.set_cons_zero, List.set_cons_succ]
                    refine wpAnyH_take (i := 45) (oi := { dst := some 118, op := Go.Op.pick (Go.Operand.tmp 107) (Go.Operand.const (Go.Value.bool true)) (Go.Operand.tmp 117), type := 4, pos := "law.go:157", after := #[{ on := 34, ground := Go.Ground.data }, { on := 44, ground := Go.Ground.data }, { on := 31, ground := Go.Ground.guard }], guard := some (31, true) }) (v := ?_) rfl (by kernel_rfl) (by kernel_rfl) (by kernel_rfl) (fun _ _ _ h => h) (Or.inl ⟨by rfl, ?_⟩) (by assumption) ?_
                    rotate_left
                    · intro w hSw; (try dsimp only at hSw); (obtain ⟨s0, s1, s2, s3, s4⟩ := hSw); go_simp; (try with_reducible rfl)
                    try simp only [Act.put, List.setIfInBounds_toArray, List.set_cons_zero, List.set_cons_succ]
                    refine wpAnyH_take (i := 46) (oi := { dst := some 119, op := Go.Op.pick (Go.Operand.tmp 104) (Go.Operand.tmp 118) (Go.Operand.const (Go.Value.bool false)), type := 4, pos := "law.go:157", after := #[{ on := 31, ground := Go.Ground.data }, { on := 45, ground := Go.Ground.data }], guard := none }) (v := ?_) rfl (by kernel_rfl) (by kernel_rfl) (by kernel_rfl) (fun _ _ _ h => h) (Or.inl ⟨by rfl, ?_⟩) (by assumption) ?_
                    rotate_left
                    · intro w hSw; (try dsimp only at hSw); (obtain ⟨s0, s1, s2, s3, s4⟩ := hSw); go_simp; (try with_reducible rfl)
                    try simp only [Act.put, List.setIfInBounds_toArray, List.set_cons_zero, List.set_cons_succ]
                    refine wpAnyH_ready (rs := [47]) (by kernel_rfl) (by simp) ?_
                    refine AllReadyH.cons rfl (fun K hK => ?_) AllReadyH.nil
                    go_simp
                    refine hK.out _ _ (by (try dsimp only); exact S5) (fun hHeld => ?_)
                    clear hK K
                    try simp only [Act.put, List.setIfInBounds_toArray, List.set_cons_zero, List.set_cons_succ]
                    refine wpAnyH_done (by kernel_rfl) ?_ _

                    go_wp2
                    go_roundg (gk - 1)
                    case measure => omega
                    case rel => exact ⟨i + 1, by go_num, by rw [E2.out], by omega, by omega, HB5⟩
                  · obtain ⟨pv, hpv, hpc⟩ := HP (by omega)
                    have yp : (wr.alloc (.cells #[.int .i64 x.f0, .int .i64 x.f1, .slice A5 x.f2.length c5] 28)).cell? ⟨(ad5.add ((i - 1) * 3)).block, (ad5.add ((i - 1) * 3)).off + 1, none⟩ = some (.int .i64 pv) := Tr.up (below_alloc (Below.refl _ _) _) hpc
                    have HPV := Aside0.mk hpv
                    clear hpv hpc
                    have b6 : ((i : Int) == 0) = false := by simpa using k6
                    have r3 : IntKind.i64.wrap ((i : Int) - 1) = ((i - 1 : Nat) : Int) := by rw [IntKind.wrap_i64]; omega
                    have r4 : (0 : Int) ≤ ((i - 1 : Nat) : Int) := by omega
                    have r5 : ((i - 1 : Nat) : Int) < (cs.length : Int) := by omega
                    by_cases k7 : pv ≤ x.f1
                    · have b7 : decide (pv ≤ x.f1) = true := decide_eq_true k7
                      have E2 : Aside0 (gN q ws cs (i + 1) = true) := ⟨by rw [hN]; unfold condN; rw [HXE.out]; unfold maxSeq; rw [decide_eq_true KK1.out, decide_eq_true k2, decide_eq_true k3, decide_eq_true k4, k5, ← HPV.out, decide_eq_true k7]; simp⟩
                      have hu : Below (wr.alloc (.cells #[.int .i64 x.f0, .int .i64 x.f1, .slice A5 x.f2.length c5] 28)).heap.size (wr.alloc (.cells #[.int .i64 x.f0, .int .i64 x.f1, .slice A5 x.f2.length c5] 28)) (wr.alloc (.cells #[.int .i64 x.f0, .int .i64 x.f1, .slice A5 x.f2.length c5] 28)).drew := below_drew1 (Below.refl _ _)
                      have S0 : (fun W : World => W.cell? ⟨wr.heap.size, 0, none⟩ = some (.int .i64 x.f0) ∧ W.cell? ⟨wr.heap.size, 1, none⟩ = some (.int .i64 x.f1) ∧ W.cell? ⟨wr.heap.size, 2, none⟩ = some (.slice A5 x.f2.length c5) ∧ W.cell? ⟨w.heap.size, 0, none⟩ = some (.int .i64 q) ∧ W.cell? ⟨w.heap.size, 2, none⟩ = some (.slice (some ad5) cs.length c2) ∧ W.cell? ⟨(ad5.add ((i - 1) * 3)).block, (ad5.add ((i - 1) * 3)).off + 1, none⟩ = some (.int .i64 pv)) (wr.alloc (.cells #[.int .i64 x.f0, .int .i64 x.f1, .slice A5 x.f2.length c5] 28)).drew := ⟨Tr.up hu d0, Tr.up hu d1, Tr.up hu d2, Tr.up hu y0, Tr.up hu y2, Tr.up hu yp⟩
                      clear hN k0 HP
                      go_wp2
                      go_region_held3 (fun W : World => W.cell? ⟨wr.heap.size, 0, none⟩ = some (.int .i64 x.f0) ∧ W.cell? ⟨wr.heap.size, 1, none⟩ = some (.int .i64 x.f1) ∧ W.cell? ⟨wr.heap.size, 2, none⟩ = some (.slice A5 x.f2.length c5) ∧ W.cell? ⟨w.heap.size, 0, none⟩ = some (.int .i64 q) ∧ W.cell? ⟨w.heap.size, 2, none⟩ = some (.slice (some ad5) cs.length c2) ∧ W.cell? ⟨(ad5.add ((i - 1) * 3)).block, (ad5.add ((i - 1) * 3)).off + 1, none⟩ = some (.int .i64 pv)) (first | exact S0 | exact S5) (first
                        | (go_at_call 22; refine (HLR.out _ (below_drew1 (below_alloc (Below.refl _ _) _))).mono ?_; rintro e w5 ⟨rfl, hb⟩
                           have hb' : Below (wr.alloc (.cells #[.int .i64 x.f0, .int .i64 x.f1, .slice A5 x.f2.length c5] 28)).heap.size (wr.alloc (.cells #[.int .i64 x.f0, .int .i64 x.f1, .slice A5 x.f2.length c5] 28)) w5 := below_step hu hb
                           have S5 : (fun W : World => W.cell? ⟨wr.heap.size, 0, none⟩ = some (.int .i64 x.f0) ∧ W.cell? ⟨wr.heap.size, 1, none⟩ = some (.int .i64 x.f1) ∧ W.cell? ⟨wr.heap.size, 2, none⟩ = some (.slice A5 x.f2.length c5) ∧ W.cell? ⟨w.heap.size, 0, none⟩ = some (.int .i64 q) ∧ W.cell? ⟨w.heap.size, 2, none⟩ = some (.slice (some ad5) cs.length c2) ∧ W.cell? ⟨(ad5.add ((i - 1) * 3)).block, (ad5.add ((i - 1) * 3)).off + 1, none⟩ = some (.int .i64 pv)) w5 := ⟨Tr.up hb' d0, Tr.up hb' d1, Tr.up hb' d2, Tr.up hb' y0, Tr.up hb' y2, Tr.up hb' yp⟩
                           have HB5 := Aside0.mk (below_step (below_alloc HB.out _) hb')
                           clear hb hb'))
                      go_wp2
                      go_roundg (gk - 1)
                      case measure => omega
                      case rel => exact ⟨i + 1, by go_num, by rw [E2.out], by omega, by omega, HB5⟩
                    · have b7 : decide (pv ≤ x.f1) = false := decide_eq_false k7
                      have E2 : Aside0 (gN q ws cs (i + 1) = false) := ⟨by rw [hN]; unfold condN; rw [HXE.out]; unfold maxSeq; rw [← HPV.out, decide_eq_false k7, decide_eq_false k6]; simp⟩
                      have hu : Below (wr.alloc (.cells #[.int .i64 x.f0, .int .i64 x.f1, .slice A5 x.f2.length c5] 28)).heap.size (wr.alloc (.cells #[.int .i64 x.f0, .int .i64 x.f1, .slice A5 x.f2.length c5] 28)) (wr.alloc (.cells #[.int .i64 x.f0, .int .i64 x.f1, .slice A5 x.f2.length c5] 28)).drew := below_drew1 (Below.refl _ _)
                      have S0 : (fun W : World => W.cell? ⟨wr.heap.size, 0, none⟩ = some (.int .i64 x.f0) ∧ W.cell? ⟨wr.heap.size, 1, none⟩ = some (.int .i64 x.f1) ∧ W.cell? ⟨wr.heap.size, 2, none⟩ = some (.slice A5 x.f2.length c5) ∧ W.cell? ⟨w.heap.size, 0, none⟩ = some (.int .i64 q) ∧ W.cell? ⟨w.heap.size, 2, none⟩ = some (.slice (some ad5) cs.length c2) ∧ W.cell? ⟨(ad5.add ((i - 1) * 3)).block, (ad5.add ((i - 1) * 3)).off + 1, none⟩ = some (.int .i64 pv)) (wr.alloc (.cells #[.int .i64 x.f0, .int .i64 x.f1, .slice A5 x.f2.length c5] 28)).drew := ⟨Tr.up hu d0, Tr.up hu d1, Tr.up hu d2, Tr.up hu y0, Tr.up hu y2, Tr.up hu yp⟩
                      clear hN k0 HP
                      go_wp2
                      go_region_held3 (fun W : World => W.cell? ⟨wr.heap.size, 0, none⟩ = some (.int .i64 x.f0) ∧ W.cell? ⟨wr.heap.size, 1, none⟩ = some (.int .i64 x.f1) ∧ W.cell? ⟨wr.heap.size, 2, none⟩ = some (.slice A5 x.f2.length c5) ∧ W.cell? ⟨w.heap.size, 0, none⟩ = some (.int .i64 q) ∧ W.cell? ⟨w.heap.size, 2, none⟩ = some (.slice (some ad5) cs.length c2) ∧ W.cell? ⟨(ad5.add ((i - 1) * 3)).block, (ad5.add ((i - 1) * 3)).off + 1, none⟩ = some (.int .i64 pv)) (first | exact S0 | exact S5) (first
                        | (go_at_call 22; refine (HLR.out _ (below_drew1 (below_alloc (Below.refl _ _) _))).mono ?_; rintro e w5 ⟨rfl, hb⟩
                           have hb' : Below (wr.alloc (.cells #[.int .i64 x.f0, .int .i64 x.f1, .slice A5 x.f2.length c5] 28)).heap.size (wr.alloc (.cells #[.int .i64 x.f0, .int .i64 x.f1, .slice A5 x.f2.length c5] 28)) w5 := below_step hu hb
                           have S5 : (fun W : World => W.cell? ⟨wr.heap.size, 0, none⟩ = some (.int .i64 x.f0) ∧ W.cell? ⟨wr.heap.size, 1, none⟩ = some (.int .i64 x.f1) ∧ W.cell? ⟨wr.heap.size, 2, none⟩ = some (.slice A5 x.f2.length c5) ∧ W.cell? ⟨w.heap.size, 0, none⟩ = some (.int .i64 q) ∧ W.cell? ⟨w.heap.size, 2, none⟩ = some (.slice (some ad5) cs.length c2) ∧ W.cell? ⟨(ad5.add ((i - 1) * 3)).block, (ad5.add ((i - 1) * 3)).off + 1, none⟩ = some (.int .i64 pv)) w5 := ⟨Tr.up hb' d0, Tr.up hb' d1, Tr.up hb' d2, Tr.up hb' y0, Tr.up hb' y2, Tr.up hb' yp⟩
                           have HB5 := Aside0.mk (below_step (below_alloc HB.out _) hb')
                           clear hb hb'))
                      go_wp2
                      go_roundg (gk - 1)
                      case measure => omega
                      case rel => exact ⟨i + 1, by go_num, by rw [E2.out], by omega, by omega, HB5⟩
            · have hiz : i = cs.length := by omega
              subst hiz
              clear hi hlt hk
              rw [HGA.out]
              obtain ⟨x0, x1, x2⟩ := (HX.out _ HB.out).1
              have HSA := HST.out _ (HX.out _ HB.out).2
              cases hs : stateM q ws cs with
              | none =>
                rw [hs] at HSA HEN
                have HSB := Aside0.mk HSA
                clear HSA
                rw [show (none : Option StM).isSome = false from rfl]
                go_wp2_with (first
                  | (go_at_call 23; refine HSB.out.mono ?_; rintro e w6 ⟨hb6, h6, _⟩; obtain rfl := h6 rfl; have HB6 : Aside0 (Below (w.alloc (.cells #[.int .i64 q, .slice A1 ws.length c1, .slice A2 cs.length c2] 25)).heap.size (w.alloc (.cells #[.int .i64 q, .slice A1 ws.length c1, .slice A2 cs.length c2] 25)) w6) := ⟨below_step HB.out hb6⟩
                     have x0 := up hb6 x0; have x1 := up hb6 x1; have x2 := up hb6 x2; clear hb6 h6)
                  | (go_at_call 24; refine (HEN.out _ (HX.out _ HB6.out).2).mono ?_; rintro e w7 ⟨⟨s, rfl, hse⟩, hb7⟩; obtain rfl := hse rfl; have HB7 := Aside0.mk (below_step HB6.out hb7); clear hb7 hse))
                go_ret
                exact ⟨by simp, (HX.out _ HB7.out).2⟩
              | some M =>
                rw [hs] at HSA HEN
                have HSB := Aside0.mk HSA
                clear HSA
                rw [show (some M : Option StM).isSome = true from rfl]
                go_wp2_with (first
                  | (go_at_call 23; refine HSB.out.mono ?_; rintro e w6 ⟨hb6, _, h6⟩; obtain ⟨s6, rfl, _, _⟩ := h6 M rfl; have HB6 : Aside0 (Below (w.alloc (.cells #[.int .i64 q, .slice A1 ws.length c1, .slice A2 cs.length c2] 25)).heap.size (w.alloc (.cells #[.int .i64 q, .slice A1 ws.length c1, .slice A2 cs.length c2] 25)) w6) := ⟨below_step HB.out hb6⟩
                     have x0 := up hb6 x0; have x1 := up hb6 x1; have x2 := up hb6 x2; clear hb6 h6)
                  | (go_at_call 24; refine (HEN.out _ (HX.out _ HB6.out).2).mono ?_; rintro e w7 ⟨⟨s, rfl, _⟩, hb7⟩; have HB7 := Aside0.mk (below_step HB6.out hb7); clear hb7))
                go_ret
                exact ⟨by simp, (HX.out _ HB7.out).2⟩
end Go.Proofs.Ytmafibbnojdpjaa.St
end
section
set_option linter.unusedVariables false
set_option maxRecDepth 100000
set_option linter.unusedSimpArgs false
namespace Go.Proofs.Ytmafibbnojdpjaa.St
open Go.Proofs.Ytmafibbnojdpjaa.Tr Go.RowKit Go.Proofs.YtmafibbnojdpjaaW.PrintWords Go.Proofs.YtmafibbnojdpjaaW.PrintLast Go.Proofs.YtmafibbnojdpjaaW.PrintMore Go.Proofs.Ytmafibbnojdpjaa.P
set_option maxHeartbeats 4000000 in
theorem bad_big1 (q : Int) (ws : List Wr) (cs : List Cm) (A1 A2 : Option Addr) (c1 c2 : Nat) (w : World) (hr1 : Kd.C k31 w A1 ws.length ws) (hc1 : ws.length ≤ c1) (hr2 : Kd.C k28 w A2 cs.length cs) (hc2 : cs.length ≤ c2)
    (hwl : ∀ i, i < cs.length → (cA cs i).f2.length < 4611686018427387904) (h1 : ¬ ws.length ≤ 30) :
    Calls Try.prog 3 #[.agg #[.int .i64 q, .slice A1 ws.length c1, .slice A2 cs.length c2]] w fun e w' => e = .returned (.bool true) ∧ Below w.heap.size w w'  := by
  obtain ⟨x0, x1, x2⟩ := three_new w 25 (.int .i64 q) (.slice A1 ws.length c1) (.slice A2 cs.length c2)
  have hb0 : Below w.heap.size w (w.alloc (.cells #[.int .i64 q, .slice A1 ws.length c1, .slice A2 cs.length c2] 25)) := below_alloc (Below.refl _ _) _
  have HB0 := Aside0.mk hb0
  have n1 : (30 : Int) < (ws.length : Int) := by omega
  clear hb0 hr1 hr2 hwl
  go_enter Try.func3, Try.ntmps3
  go_wp2_with (first
    | (go_at_call 21; refine (head_any _).mono ?_; rintro e w1 ⟨rfl, hb⟩; have HB1 := Aside0.mk (below_step HB0.out hb); have x0 := up hb x0; have x1 := up hb x1; have x2 := up hb x2; clear hb))
  go_ret
  exact ⟨rfl, HB1.out⟩
set_option maxHeartbeats 4000000 in
theorem bad_big2 (q : Int) (ws : List Wr) (cs : List Cm) (A1 A2 : Option Addr) (c1 c2 : Nat) (w : World) (hr1 : Kd.C k31 w A1 ws.length ws) (hc1 : ws.length ≤ c1) (hr2 : Kd.C k28 w A2 cs.length cs) (hc2 : cs.length ≤ c2)
    (hwl : ∀ i, i < cs.length → (cA cs i).f2.length < 4611686018427387904) (h1 : ws.length ≤ 30) (h2 : ¬ cs.length ≤ 20) :
    Calls Try.prog 3 #[.agg #[.int .i64 q, .slice A1 ws.length c1, .slice A2 cs.length c2]] w fun e w' => e = .returned (.bool true) ∧ Below w.heap.size w w'  := by
  obtain ⟨x0, x1, x2⟩ := three_new w 25 (.int .i64 q) (.slice A1 ws.length c1) (.slice A2 cs.length c2)
  have hb0 : Below w.heap.size w (w.alloc (.cells #[.int .i64 q, .slice A1 ws.length c1, .slice A2 cs.length c2] 25)) := below_alloc (Below.refl _ _) _
  have HB0 := Aside0.mk hb0
  have n1 : ¬ (30 : Int) < (ws.length : Int) := by omega
  have n2 : (20 : Int) < (cs.length : Int) := by omega
  clear hb0 hr1 hr2 hwl
  go_enter Try.func3, Try.ntmps3
  go_wp2_with (first
    | (go_at_call 21; refine (head_any _).mono ?_; rintro e w1 ⟨rfl, hb⟩; have HB1 := Aside0.mk (below_step HB0.out hb); have x0 := up hb x0; have x1 := up hb x1; have x2 := up hb x2; clear hb))
  go_ret
  exact ⟨rfl, HB1.out⟩
set_option maxHeartbeats 4000000 in
theorem recBad_walk (x : Int × (List Wr × List Cm)) (cs0 : List Value) (w : World) (hK : (Kd.pair (Kd.int .i64) (Kd.pair (Kd.slice 31 k31) (Kd.slice 28 k28))).K w x cs0)
    (ho : (Lit.int .i64 x.1).wf = true ∧ ((x.2.1.length ≤ maxLen ∧ x.2.1.length * 40 ≤ 140737488351232 ∧ ∀ y ∈ x.2.1, (y.f0.size ≤ 140737488351232 ∧ y.f1.size ≤ 140737488351232 ∧ True)) ∧ (x.2.2.length ≤ maxLen ∧ x.2.2.length * 40 ≤ 140737488351232 ∧ ∀ y ∈ x.2.2, ((Lit.int .i64 y.f0).wf = true ∧ (Lit.int .i64 y.f1).wf = true ∧ (y.f2.length ≤ maxLen ∧ y.f2.length * 40 ≤ 140737488351232 ∧ ∀ z ∈ y.f2, (z.f0.size ≤ 140737488351232 ∧ z.f1.size ≤ 140737488351232 ∧ True)))))) :
    Calls Try.prog 3 #[.agg cs0.toArray] w fun e w' => e = .returned (.bool true) ∧ Below w.heap.size w w' := by
  obtain ⟨q, ws, cs⟩ := x
  obtain ⟨_, _, rfl, rfl, ⟨_, _, rfl, ⟨A1, c1, rfl, hc1, hr1⟩, ⟨A2, c2, rfl, hc2, hr2⟩⟩⟩ := hK
  have hwl : ∀ i, i < cs.length → (cA cs i).f2.length < 4611686018427387904 := fun i hi => by
    rw [cA_eq hi]
    have h := (ho.2.2.2.2 _ (List.getElem_mem hi)).2.2.2.1
    omega
  change Calls Try.prog 3 #[.agg #[.int .i64 q, .slice A1 ws.length c1, .slice A2 cs.length c2]] w _
  by_cases h1 : ws.length ≤ 30
  · by_cases h2 : cs.length ≤ 20
    · by_cases h3 : 0 ≤ q
      · by_cases h4 : q ≤ maxSeq
        · exact bad_in q ws cs A1 A2 c1 c2 w hr1 hc1 hr2 hc2 hwl h1 h2 h3 h4
        · exact bad_max q ws cs A1 A2 c1 c2 w hr1 hc1 hr2 hc2 hwl h1 h2 (decide_eq_true h3) (decide_eq_false h4)
      · exact bad_neg q ws cs A1 A2 c1 c2 w hr1 hc1 hr2 hc2 hwl h1 h2 (decide_eq_false h3)
    · exact bad_big2 q ws cs A1 A2 c1 c2 w hr1 hc1 hr2 hc2 hwl h1 h2
  · exact bad_big1 q ws cs A1 A2 c1 c2 w hr1 hc1 hr2 hc2 hwl h1
end Go.Proofs.Ytmafibbnojdpjaa.St
end
