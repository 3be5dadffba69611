/- Lemmas that the proof needs, part 13. -/
import Derived.Test.YtmafibbnojdpjaaWKept
import Derived.Deep.RegionHeld3
import Derived.Deep.QuietTactic
import Derived.Test.YtmafibbnojdpjaaWWords
import Derived.Test.YtmafibbnojdpjaaWN
import Derived.Test.YtmafibbnojdpjaaWLast
import Derived.Laws.IdiomStrings
import Derived.Laws.AppendOwn
import Derived.Deep.RegionLaw
import Derived.Test.YtmafibbnojdpjaaKp1
import Derived.Test.YtmafibbnojdpjaaKp2
import Derived.Test.YtmafibbnojdpjaaKp3
import Derived.Test.YtmafibbnojdpjaaKp4
import Derived.Test.YtmafibbnojdpjaaKp5
import Derived.Test.YtmafibbnojdpjaaKp6
import Derived.Test.YtmafibbnojdpjaaKp7
import Derived.Test.YtmafibbnojdpjaaKp8
import Derived.Test.YtmafibbnojdpjaaKp9
import Derived.Test.YtmafibbnojdpjaaKp10
import Derived.Test.YtmafibbnojdpjaaKp11
import Derived.Test.YtmafibbnojdpjaaKp12
section
set_option linter.unusedVariables false
set_option maxRecDepth 100000
set_option linter.unusedSimpArgs false
namespace Go.Proofs.Ytmafibbnojdpjaa.St
open Go.Proofs.Ytmafibbnojdpjaa.Tr Go.RowKit Go.Proofs.YtmafibbnojdpjaaW.PrintWords Go.Proofs.YtmafibbnojdpjaaW.PrintLast Go.Proofs.YtmafibbnojdpjaaW.PrintMore Go.Proofs.Ytmafibbnojdpjaa.P
/-- a write, as the encoding's law has it -/
def toR (x : Wr) : RecP.Wr := ⟨x.f0.data.toList, x.f1.data.toList, x.f2⟩
theorem map_toR (ws : List Wr) : (ws.map toR).map RecEv.toS = ws := by
  rw [List.map_map]
  have : ∀ x ∈ ws, (RecEv.toS ∘ toR) x = x := fun x _ => (RecEv.toS_of x).symm
  rw [List.map_congr_left this, List.map_id']
def encW (ws : List Wr) : List UInt8 := RecP.writesE (ws.map toR)
def encC (c : Cm) : List UInt8 := RecP.commitE c.f0.toNat c.f1.toNat (c.f2.map toR)
def encS (q : Int) (ws : List Wr) (cs : List Cm) : List UInt8 := RecP.numE q.toNat ++ encW ws ++ RecP.numE cs.length ++ cs.flatMap encC
theorem c_kept {w W : World} {A : Option Addr} {n : Nat} {ws : List Wr} (h : Kd.C k31 w A n ws) (hs : w.heap.size ≤ W.heap.size) (hk : ∀ k, k < w.heap.size → W.heap[k]? = w.heap[k]?) : Kd.C k31 W A n ws :=
  Kd.C_below (w1 := { W with os := w.os, tape := w.tape, output := w.output }) h ⟨rfl, rfl, rfl, hs, hk⟩
/-- bytes that are being laid: a row of the call's own, behind block n -/
structure Lay (w W : World) (n : Nat) (v : Value) (l : List UInt8) : Prop where
  bel : Below w.heap.size w W
  row : Kd.R (Kd.int .u8) 5 W w.heap.size (fun k => n < k) v (RecEv.I l)
variable {w W : World} {n : Nat} {v : Value} {l : List UInt8}
def LayPost (w W : World) (n : Nat) (l : List UInt8) (e : Ending) (W' : World) : Prop := ∃ v', e = .returned v' ∧ Lay w W' n v' l ∧ Kept W W' (fun k => n < k)
theorem lay_post {l : List UInt8} (hn : n < W.heap.size) {f : World → Ending → World → Prop} {num : Nat} {args : Array Value}
    (h : Calls Try.prog num args W fun e w' => ∃ v0 : Value, e = .returned v0 ∧ Kd.R (Kd.int .u8) 5 w' w.heap.size (fun k => n < k ∨ W.heap.size ≤ k) v0 (RecEv.I l) ∧ Below w.heap.size w w' ∧ Kept W w' (fun k => n < k)) : Calls Try.prog num args W (LayPost w W n l) := by
  refine h.mono ?_
  rintro e w' ⟨v0, rfl, h1, h2, h3⟩
  exact ⟨v0, rfl, ⟨h2, Kd.R_mono h1 (fun k hk => by rcases hk with hk | hk <;> omega)⟩, h3⟩
theorem lay_num (h : Lay w W n v l) (hn : n < W.heap.size) (a : Nat) (ha : a < 9223372036854775808) (hl : l.length < 140737488355000) : Calls Try.prog 62 #[v, .int .i64 (a : Int)] W (LayPost w W n (l ++ RecP.numE a)) := by
  obtain ⟨k, hk⟩ := (RecEv.num_ev l a hl ha).rounds
  exact lay_post (f := fun _ _ _ => True) hn (octet_Num.calls k (fun k => n < k) v _ a _ w W h.bel h.row hk)
theorem lay_writes (h : Lay w W n v l) (hn : n < W.heap.size) (hnw : w.heap.size ≤ n) (ws : List Wr) (A : Option Addr) (c : Nat) (hr : Kd.C k31 w A ws.length ws) (hc : ws.length ≤ c) (hl : l.length + RecEv.bulk (ws.map toR) < 140737488353900) (hw : ws.length < 9223372036854775808) : Calls Try.prog 61 #[v, .slice A ws.length c] W (LayPost w W n (l ++ encW ws)) := by
  obtain ⟨k, hk⟩ := (RecEv.writes_ev l (ws.map toR) hl (by simpa using hw)).rounds
  rw [map_toR] at hk
  refine lay_post (f := fun _ _ _ => True) hn (rec_writes.calls k (fun k => n < k) v _ A c ws _ w W h.bel h.row (fun W_ hK => ?_) hc hk)
  exact c_kept hr (Nat.le_trans h.bel.size hK.1) (fun k hk => (hK.2 k (Nat.lt_of_lt_of_le hk h.bel.size) (by omega)).trans (h.bel.block k hk))
theorem lay_commit (h : Lay w W n v l) (hn : n < W.heap.size) (hnw : w.heap.size ≤ n) (c : Cm) (A : Option Addr) (cap : Nat) (hr : Kd.C k31 w A c.f2.length c.f2) (hc : c.f2.length ≤ cap) (hl : l.length + RecEv.bulk (c.f2.map toR) < 140737488353800) (hw : c.f2.length < 9223372036854775808) (h0 : 0 ≤ c.f0) (h1 : 0 ≤ c.f1) (h2 : c.f0 < 9223372036854775808) (h3 : c.f1 < 9223372036854775808) :
    Calls Try.prog 63 #[v, .agg #[.int .i64 c.f0, .int .i64 c.f1, .slice A c.f2.length cap]] W (LayPost w W n (l ++ encC c)) := by
  obtain ⟨k, hk⟩ := (RecEv.commit_ev l c.f0.toNat c.f1.toNat (c.f2.map toR) hl (by simpa using hw) (by omega) (by omega)).rounds
  rw [map_toR, show ((c.f0.toNat : Nat) : Int) = c.f0 by omega, show ((c.f1.toNat : Nat) : Int) = c.f1 by omega] at hk
  refine lay_post (f := fun _ _ _ => True) hn (rec_commit.calls k (fun k => n < k) v _ c.f0 c.f1 A cap c.f2 _ w W h.bel h.row (fun W_ hK => ?_) hc hk)
  exact c_kept hr (Nat.le_trans h.bel.size hK.1) (fun k hk => (hK.2 k (Nat.lt_of_lt_of_le hk h.bel.size) (by omega)).trans (h.bel.block k hk))
theorem bulk_right {ws : List Wr} (h : rises ws = true) : RecEv.bulk (ws.map toR) ≤ ws.length * 4516 := by
  have hk : ∀ x ∈ ws, x.f0.size ≤ 400 ∧ x.f1.size ≤ 4096 := fun x hx => by
    obtain ⟨i, hi, rfl⟩ := List.mem_iff_getElem.1 hx
    have := rises_iff.1 h i hi
    unfold okAt okW at this
    simp only [Bool.and_eq_true, decide_eq_true_eq] at this
    rw [wA_eq hi] at this
    exact ⟨this.1.1.1.2, this.1.1.2⟩
  clear h
  induction ws with
  | nil => simp [RecEv.bulk]
  | cons x ws ih =>
    have h1 := hk x (List.mem_cons_self ..)
    have h2 := ih (fun y hy => hk y (List.mem_cons_of_mem _ hy))
    rw [List.map_cons, RecEv.bulk_cons, List.length_cons]
    have h3 : (toR x).key.length = x.f0.size := by simp [toR]
    have h4 : (toR x).val.length = x.f1.size := by simp [toR]
    rw [h3, h4]
    omega
theorem encW_len {ws : List Wr} (h : rises ws = true) (hw : ws.length < 1000000) : (encW ws).length ≤ 9 + ws.length * 4516 := by
  have hb := bulk_right h
  have h1 := RecEv.numE_length (ws.map toR).length (by simp; omega)
  have h2 := RecEv.bulk_le (ws.map toR) (fun y hy => by
    obtain ⟨x, hx, rfl⟩ := List.mem_map.1 hy
    obtain ⟨i, hi, rfl⟩ := List.mem_iff_getElem.1 hx
    have := rises_iff.1 h i hi
    unfold okAt okW at this
    simp only [Bool.and_eq_true, decide_eq_true_eq] at this
    rw [wA_eq hi] at this
    have h3 : (toR ws[i]).key.length = ws[i].f0.size := by simp [toR]
    have h4 : (toR ws[i]).val.length = ws[i].f1.size := by simp [toR]
    have := this.1.1.1.2
    have := (rises_iff.1 h i hi)
    unfold okAt okW at this
    simp only [Bool.and_eq_true, decide_eq_true_eq] at this
    rw [wA_eq hi] at this
    have := this.1.1.2
    omega)
  unfold encW RecP.writesE
  rw [List.length_append]
  omega
/-- what a commit that is taken is like -/
structure Fine (c : Cm) : Prop where
  s0 : 0 ≤ c.f0
  s1 : c.f0 ≤ maxSeq
  a0 : 0 ≤ c.f1
  a1 : c.f1 ≤ maxSeq
  r : rightW c.f2 = true
theorem run_fine {cs : List Cm} : ∀ {M M' : StM}, 0 ≤ lastM M → runM M cs = some M' → ∀ c ∈ cs, Fine c := by
  induction cs with
  | nil => intro M M' _ _ c hc; cases hc
  | cons d cs ih =>
    intro M M' h0 h c hc
    have h2 : (if goodC M d = true then runM (comM M d) cs else none) = some M' := h
    cases hg : goodC M d with
    | false => rw [hg] at h2; cases h2
    | true =>
      rw [hg, if_pos rfl] at h2
      obtain ⟨g1, g2, g3, g4, g5, _⟩ := goodC_iff.1 hg
      rcases List.mem_cons.1 hc with rfl | hc
      · exact ⟨by omega, g2, g3, g4, g5⟩
      · exact ih (by rw [last_com]; omega) h2 c hc
theorem encC_len {c : Cm} (h : Fine c) : (encC c).length ≤ 1000000 ∧ c.f2.length ≤ 200 ∧ RecEv.bulk (c.f2.map toR) ≤ 1000000 := by
  have hr := h.r
  unfold rightW at hr
  rw [Bool.and_eq_true, decide_eq_true_eq] at hr
  have h1 := encW_len hr.2 (by omega)
  have h2 := bulk_right hr.2
  have h3 := RecEv.numE_length c.f0.toNat (by have := h.s1; unfold maxSeq at this; omega)
  have h4 := RecEv.numE_length c.f1.toNat (by have := h.a1; unfold maxSeq at this; omega)
  refine ⟨?_, hr.1, by omega⟩
  unfold encC RecP.commitE
  rw [List.length_append, List.length_append]
  show _ + _ + (encW c.f2).length ≤ _
  omega
theorem lay_text (h : Lay w W n v l) : (convert 61 9 v).run Try.prog W = .ok (.string (FrEv.B l)) W := by
  obtain ⟨A, c, rfl, _, hC⟩ := Kd.R_reads h.row
  rw [← RecEv.I_str]
  exact Kd.C_string Try.underlying61 Try.underlying5 Try.underlying9 hC
set_option maxHeartbeats 8000000 in
theorem enc_good (q : Int) (ws : List Wr) (cs : List Cm) (A1 A2 : Option Addr) (c1 c2 : Nat) (w : World) (hr1 : Kd.C k31 w A1 ws.length ws) (hc1 : ws.length ≤ c1) (hn1 : ws.length ≤ 1000)
    (hr2 : Kd.C k28 w A2 cs.length cs) (hc2 : cs.length ≤ c2) (hn2 : cs.length ≤ 1000) (hwl : ∀ i, i < cs.length → (cA cs i).f2.length < 4611686018427387904) (M : StM) (hM : stateM q ws cs = some M) :
    Calls Try.prog 24 #[.agg #[.int .i64 q, .slice A1 ws.length c1, .slice A2 cs.length c2]] w fun e w' => e = .returned (.tuple #[.string (FrEv.B (encS q ws cs)), .int .i64 0]) ∧ Below w.heap.size w w' := by
  have hb0 : Below w.heap.size w (w.alloc (.cells #[.int .i64 q, .slice A1 ws.length c1, .slice A2 cs.length c2] 25)) := below_alloc (Below.refl _ _) _
  have HST := Aside0.mk (state_any q ws cs A1 A2 c1 c2 _ (Kd.C_below hr1 hb0) hc1 hn1 (Kd.C_below hr2 hb0) hc2 hn2 hwl)
  have HB0 := Aside0.mk hb0
  have HR1 := Aside0.mk hr1
  have HR2 := Aside0.mk hr2
  obtain ⟨x0, x1, x2⟩ := three_new w 25 (.int .i64 q) (.slice A1 ws.length c1) (.slice A2 cs.length c2)
  have hzb : (w.alloc (.cells #[.int .i64 q, .slice A1 ws.length c1, .slice A2 cs.length c2] 25)).heap.size = w.heap.size + 1 := World.size_alloc _ _
  have hok : newOk q ws = true := by
    cases h : newOk q ws with
    | true => rfl
    | false => unfold stateM at hM; rw [h] at hM; cases hM
  have hrun : runM (newM q ws) cs = some M := by unfold stateM at hM; rw [hok] at hM; exact hM
  have hok2 := hok
  unfold newOk at hok2
  simp only [Bool.and_eq_true, decide_eq_true_eq] at hok2
  obtain ⟨⟨⟨q0, q1⟩, q2⟩, _⟩ := hok2
  have HFN : Aside0 (∀ i, i < cs.length → Fine (cA cs i)) := ⟨fun i hi => run_fine (inv_new hok).last0 hrun _ (by rw [cA_eq hi]; exact List.getElem_mem _)⟩
  have hbk := bulk_right q2
  have hlw := encW_len q2 (by omega)
  unfold maxSeq at q1
  obtain ⟨qn, hqn⟩ : ∃ qn : Nat, q = (qn : Int) := ⟨q.toNat, by omega⟩
  subst hqn
  have hl1 := RecEv.numE_length qn (by omega)
  have HE0 : Aside0 (encS (qn : Int) ws cs = RecP.numE qn ++ encW ws ++ RecP.numE cs.length ++ cs.flatMap encC) := ⟨by unfold encS; rw [Int.toNat_natCast]⟩
  have hl2 := RecEv.numE_length cs.length (by omega)
  have HSZ : Aside0 ((RecP.numE qn).length ≤ 9 ∧ (encW ws).length ≤ 9 + ws.length * 4516 ∧ (RecP.numE cs.length).length ≤ 9 ∧ RecEv.bulk (ws.map toR) ≤ ws.length * 4516) := ⟨⟨hl1, hlw, hl2, hbk⟩⟩
  clear hr1 hr2 hwl hb0 hrun hok q0 q2 hbk hlw hl1 hl2
  go_enter Try.func24, Try.ntmps24
  go_wp2_with (first | (go_at_call 23; refine HST.out.mono ?_; rintro e w1 ⟨hb, _, h1⟩; obtain ⟨s, rfl, _, _⟩ := h1 M hM; have x0 := up hb x0; have x1 := up hb x1; have x2 := up hb x2; have HB1 := Aside0.mk (below_step HB0.out hb); have hz1 := hb.size; clear hb h1))
  have hz2 : w.heap.size < w1.heap.size := by omega
  have L0 : Aside0 (Lay w w1.drew w.heap.size (.slice none 0 0) []) := ⟨⟨below_drew1 HB1.out, Kd.R_nil _ _ _ _ _⟩⟩
  have S0 : Three w.heap.size (.int .i64 (qn : Int)) (.slice A1 ws.length c1) (.slice A2 cs.length c2) w1.drew := (show Three w.heap.size (.int .i64 (qn : Int)) (.slice A1 ws.length c1) (.slice A2 cs.length c2) w1 from ⟨x0, x1, x2⟩).up (below_drew1 (Below.refl _ _))
  clear HST HB0
  go_region_held3 (fun W : World => W.cell? ⟨w.heap.size, 0, none⟩ = some (.int .i64 (qn : Int)) ∧ W.cell? ⟨w.heap.size, 1, none⟩ = some (.slice A1 ws.length c1) ∧ W.cell? ⟨w.heap.size, 2, none⟩ = some (.slice A2 cs.length c2)) (first | exact S0 | exact S3 | exact S2) (first
    | (go_at_call 62; refine (lay_num L0.out hz2 qn (by omega) (by simp)).mono ?_; rintro e w2 ⟨v2, rfl, hl2, hk2⟩
       have S2 := S0.kept (hk2.2 w.heap.size hz2 (Nat.lt_irrefl _))
       have L2 := Aside0.mk hl2
       have hz3 : w.heap.size < w2.heap.size := Nat.lt_of_lt_of_le hz2 hk2.1
       clear hl2 hk2)
    | (go_at_call 61; refine (lay_writes L2.out hz3 (Nat.le_refl _) ws A1 c1 HR1.out hc1 (by have := HSZ.out; simp only [List.nil_append]; omega) (by omega)).mono ?_; rintro e w3 ⟨v3, rfl, hl3, hk3⟩
       have S3 := S2.kept (hk3.2 w.heap.size hz3 (Nat.lt_irrefl _))
       have L3 := Aside0.mk hl3
       have hz4 : w.heap.size < w3.heap.size := Nat.lt_of_lt_of_le hz3 hk3.1
       clear hl3 hk3))
  obtain ⟨y0, y1, y2⟩ := S3
  go_wp2_with (first
    | (go_at_call 62; refine (lay_num L3.out hz4 cs.length (by omega) (by have := HSZ.out; simp only [List.nil_append, List.length_append]; omega)).mono ?_; rintro e w4 ⟨v4, rfl, hl4, hk4⟩
       have y2 := cell_kept y2 hk4 (Nat.lt_irrefl _)
       have L4 := Aside0.mk hl4
       have hz5 : w.heap.size < w4.heap.size := Nat.lt_of_lt_of_le hz4 hk4.1
       clear hl4 hk4))
  have L5 : Aside0 (Lay w w4 w.heap.size v4 (RecP.numE qn ++ encW ws ++ RecP.numE cs.length ++ (cs.take 0).flatMap encC)) := ⟨by have := L4.out; simpa using this⟩
  have HZ5 := Aside0.mk hz5
  clear S0 S2 x0 x1 x2 y0 y1 L0 L2 L3 L4 HB1 hz1 hz2 hz3 hz4 hz5
  go_loopg [6, 30] (cs.length + 1) (fun kq v6 v30 wq => ∃ i : Nat, v30 = .int .i64 (i : Int) ∧ i ≤ cs.length ∧ cs.length - i < kq ∧ Aside0 (Lay w wq w.heap.size v6 (RecP.numE qn ++ encW ws ++ RecP.numE cs.length ++ (cs.take i).flatMap encC)) ∧ Aside0 (w.heap.size < wq.heap.size) ∧ Aside0 (((cs.take i).flatMap encC).length ≤ i * 1000000))
  case atStart => exact ⟨0, rfl, Nat.zero_le _, by omega, L5, HZ5, ⟨by simp⟩⟩
  case round =>
    clear L5 HZ5
    obtain ⟨i, rfl, hi, hk, HL, HZ, HLL⟩ := hrel
    have z0 : (0 : Int) ≤ (i : Int) := by omega
    by_cases hlt : i < cs.length
    · have z1 : (i : Int) < (cs.length : Int) := by omega
      obtain ⟨ad5, A5, c5, eA, f0, f1, f2, f3, f4⟩ := at_T28 (Kd.C_below HR2.out HL.out.bel) (i : Int) z0 z1
      obtain ⟨ad6, A6, c6, eA6, g0, g1, g2, g3, g4⟩ := at_T28 HR2.out (i : Int) z0 z1
      rw [rd_cA, Int.toNat_natCast] at f0 f1 f2 g2
      rw [rd_cA] at f3 f4 g3 g4
      rw [eA] at eA6
      cases eA6
      have hcell := up HL.out.bel g2
      rw [f2] at hcell
      cases hcell
      subst eA
      have hf := HFN.out i hlt
      have he := encC_len hf
      have hb2 : Below w.heap.size w (wr.alloc (.cells #[.int .i64 (cA cs i).f0, .int .i64 (cA cs i).f1, .slice A5 (cA cs i).f2.length c5] 28)) := HL.out.bel.alloc (Nat.le_of_lt HZ.out) _
      have L6 : Aside0 (Lay w (wr.alloc (.cells #[.int .i64 (cA cs i).f0, .int .i64 (cA cs i).f1, .slice A5 (cA cs i).f2.length c5] 28)) w.heap.size u6 (RecP.numE qn ++ encW ws ++ RecP.numE cs.length ++ (cs.take i).flatMap encC)) := ⟨⟨hb2, Kd.R_below HL.out.row (below_alloc (Below.refl _ _) _)⟩⟩
      have HCL := Aside0.mk (lay_commit L6.out (by rw [World.size_alloc]; exact Nat.lt_succ_of_lt HZ.out) (Nat.le_refl _) (cA cs i) A5 c5 g4 g3 (by have h1 := HSZ.out; have h2 := HLL.out; simp only [List.length_append]; omega) (by omega) hf.s0 hf.a0 (by have := hf.s1; unfold maxSeq at this; omega) (by have := hf.a1; unfold maxSeq at this; omega))
      have HNX : Aside0 ((cs.take (i + 1)).flatMap encC = (cs.take i).flatMap encC ++ encC (cA cs i)) := ⟨by rw [List.take_succ_eq_append_getElem hlt, List.flatMap_append, cA_eq hlt]; simp⟩
      have HLN : Aside0 (((cs.take (i + 1)).flatMap encC).length ≤ (i + 1) * 1000000) := ⟨by rw [HNX.out, List.length_append]; have := HLL.out; omega⟩
      obtain ⟨d0, d1, d2⟩ := three_new wr 28 (.int .i64 (cA cs i).f0) (.int .i64 (cA cs i).f1) (.slice A5 (cA cs i).f2.length c5)
      clear hf he hb2 f3 f4 g0 g1 g2 g3 g4
      generalize cA cs i = x at *
      go_wp2_with (first | (go_at_call 63; refine HCL.out.mono ?_; rintro e w5 ⟨v5, rfl, hl5, hk5⟩; have L7 := Aside0.mk hl5; have HZ7 : Aside0 (w.heap.size < w5.heap.size) := ⟨Nat.lt_of_lt_of_le HZ.out (Nat.le_trans (by rw [World.size_alloc]; exact Nat.le_succ _) hk5.1)⟩; clear hl5 hk5))
      go_roundg (gk - 1)
      case measure => omega
      case rel => exact ⟨i + 1, by go_num, by omega, by omega, ⟨by rw [HNX.out, ← List.append_assoc]; exact L7.out⟩, HZ7, HLN⟩
    · have hiz : i = cs.length := by omega
      subst hiz
      clear hi hlt
      rw [List.take_length] at HL
      have hconv := lay_text HL.out
      rw [← HE0.out] at hconv
      go_wp2
      go_ret2
      exact ⟨rfl, HL.out.bel⟩
end Go.Proofs.Ytmafibbnojdpjaa.St
end
section
set_option linter.unusedVariables false
set_option maxRecDepth 100000
set_option linter.unusedSimpArgs false
namespace Go.Proofs.Ytmafibbnojdpjaa.St
open Go.Proofs.Ytmafibbnojdpjaa.Tr Go.RowKit Go.Proofs.YtmafibbnojdpjaaW.PrintWords Go.Proofs.YtmafibbnojdpjaaW.PrintLast Go.Proofs.YtmafibbnojdpjaaW.PrintMore Go.Proofs.Ytmafibbnojdpjaa.P
/-- what a reader still has; empty behind an error -/
def sB (st : RecP.St) : ByteArray := ⟨(st.getD []).toArray⟩
structure RdAt (w : World) (r : Nat) (st : RecP.St) : Prop where
  head : w.heap[r]? = some (.cells #[.string (sB st), .bool st.isNone] 160 (0, 0))
variable {w w' : World} {r : Nat} {st : RecP.St}
theorem RdAt.lt (h : RdAt w r st) : r < w.heap.size := (Array.getElem?_eq_some_iff.1 h.head).1
theorem RdAt.c0 (h : RdAt w r st) : w.cell? ⟨r, 0, none⟩ = some (.string (sB st)) := by simp [World.cell?, h.head]
theorem RdAt.c1 (h : RdAt w r st) : w.cell? ⟨r, 1, none⟩ = some (.bool st.isNone) := by simp [World.cell?, h.head]
theorem RdAt.fz (h : RdAt w r st) (i : Nat) : w.frozen? ⟨r, i, none⟩ = false := by simp [World.frozen?, h.head]
theorem RdAt.below (h : RdAt w r st) (hb : Below w.heap.size w w') : RdAt w' r st := ⟨(hb.block r h.lt).trans h.head⟩
abbrev oneB (r : Nat) (k : Nat) : Prop := k = r
def RdPost (w : World) (r : Nat) (st : RecP.St) (v : Value) (e : Ending) (w' : World) : Prop := e = .returned v ∧ RdAt w' r st ∧ Fr (oneB r) w w'
set_option maxHeartbeats 1000000 in
theorem rd_fail (h : RdAt w r st) : Calls Try.prog 97 #[.pointer (some ⟨r, 0, none⟩)] w (RdPost w r none (.tuple #[])) := by
  have c0 := h.c0
  have c1 := h.c1
  have z0 := h.fz 0
  have z1 := h.fz 1
  have h1 := heap_setCell_at w r 1 _ _ _ (.bool true) h.head
  have h2 := heap_setCell_at (w.setCell ⟨r, 1, none⟩ (.bool true)) r 0 _ _ _ (.string ⟨#[]⟩) h1
  have h3 := heap_setCell_at w r 0 _ _ _ (.string ⟨#[]⟩) h.head
  have h4 := heap_setCell_at (w.setCell ⟨r, 0, none⟩ (.string ⟨#[]⟩)) r 1 _ _ _ (.bool true) h3
  have H2 : Aside0 (RdAt ((w.setCell ⟨r, 1, none⟩ (.bool true)).setCell ⟨r, 0, none⟩ (.string ⟨#[]⟩)) r none) := ⟨⟨h2⟩⟩
  have H4 : Aside0 (RdAt ((w.setCell ⟨r, 0, none⟩ (.string ⟨#[]⟩)).setCell ⟨r, 1, none⟩ (.bool true)) r none) := ⟨⟨h4⟩⟩
  clear h h1 h2 h3 h4
  go_enter Try.func97, Try.ntmps97
  go_wp2
  go_end0
  exact ⟨rfl, H2.out, (Fr.setCell (F := oneB r) _ r _ _ rfl).trans (Fr.setCell (F := oneB r) _ r _ _ rfl)⟩
set_option maxHeartbeats 1000000 in
theorem rd_err (h : RdAt w r st) : Calls Try.prog 75 #[.pointer (some ⟨r, 0, none⟩)] w fun e w' => e = .returned (.int .i64 (if st.isNone then 2 else 0)) ∧ w' = w := by
  have c1 := h.c1
  clear h
  cases hs : st.isNone with
  | true =>
    rw [hs] at c1
    clear hs
    go_enter Try.func75, Try.ntmps75
    go_wp2
    go_ret
    exact ⟨rfl, rfl⟩
  | false =>
    rw [hs] at c1
    clear hs
    go_enter Try.func75, Try.ntmps75
    go_wp2
    go_ret
    exact ⟨rfl, rfl⟩
set_option maxHeartbeats 1000000 in
theorem rd_left (h : RdAt w r st) : Calls Try.prog 96 #[.pointer (some ⟨r, 0, none⟩)] w fun e w' => e = .returned (.int .i64 ((sB st).size : Int)) ∧ w' = w := by
  have c0 := h.c0
  clear h
  go_enter Try.func96, Try.ntmps96
  go_wp2
  go_ret
  exact ⟨rfl, rfl⟩
/-- is all read, and well? -/
def endO (st : RecP.St) : Bool := decide (st = some [])
set_option maxHeartbeats 1000000 in
theorem rd_end (h : RdAt w r st) : Calls Try.prog 71 #[.pointer (some ⟨r, 0, none⟩)] w fun e w' => e = .returned (.int .i64 (if endO st then 0 else 2)) ∧ w' = w := by
  have HL := Aside0.mk (rd_left h)
  have HE := Aside0.mk (rd_err h)
  cases st with
  | none =>
    have e0 : ¬ (0 : Int) < ((sB none).size : Int) := by show ¬ (0 : Int) < ((0 : Nat) : Int); decide
    clear h
    go_enter Try.func71, Try.ntmps71
    go_wp2_with (first
      | (go_at_call 96; refine HL.out.mono ?_; rintro e w1 ⟨rfl, rfl⟩)
      | (go_at_call 75; refine HE.out.mono ?_; rintro e w1 ⟨rfl, rfl⟩))
    go_ret
    exact ⟨rfl, rfl⟩
  | some s =>
    cases s with
    | nil =>
      have e0 : ¬ (0 : Int) < ((sB (some [])).size : Int) := by show ¬ (0 : Int) < ((0 : Nat) : Int); decide
      clear h
      go_enter Try.func71, Try.ntmps71
      go_wp2_with (first
        | (go_at_call 96; refine HL.out.mono ?_; rintro e w1 ⟨rfl, rfl⟩)
        | (go_at_call 75; refine HE.out.mono ?_; rintro e w1 ⟨rfl, rfl⟩))
      go_ret
      exact ⟨rfl, rfl⟩
    | cons a t =>
      have e0 : (0 : Int) < ((sB (some (a :: t))).size : Int) := by
        show (0 : Int) < (((a :: t).toArray.size : Nat) : Int)
        simp
      clear h
      go_enter Try.func71, Try.ntmps71
      go_wp2_with (first
        | (go_at_call 96; refine HL.out.mono ?_; rintro e w1 ⟨rfl, rfl⟩)
        | (go_at_call 75; refine HE.out.mono ?_; rintro e w1 ⟨rfl, rfl⟩))
      go_ret
      exact ⟨by simp [endO], rfl⟩
theorem conv_bytes (W : World) (s : ByteArray) (hl : s.size ≤ maxLen) : ∃ g cap w1, (convert 9 61 (.string s)).run Try.prog W = .ok (.slice (some ⟨g, 0, none⟩) s.size cap) w1 ∧ (∀ j, j < s.size → w1.cell? ⟨g, j, none⟩ = some (.int .u8 (((s.data.toList.getD j 0).toNat : Nat) : Int))) ∧ Below W.heap.size W w1 ∧ w1.heap.size = W.heap.size + 1 := by
  have hr := run_bytes_of_string (P := Try.prog) W 9 61 5 s Try.underlying9 Try.underlying61 Try.underlying5
  refine ⟨_, _, _, hr, fun j hj => ?_, ?_, ?_⟩
  · have hh := heap_alloc_new W.drew (.cells (bytesRow s (grownCap W s.size 0 5)) 5 ((bytesRow s (grownCap W s.size 0 5)).size, (bytesRow s (grownCap W s.size 0 5)).size + 1))
    refine (cell_of_row _ _ j _ _ _ hh).trans ?_
    unfold bytesRow
    have e : s.data.size = s.size := rfl
    rw [Array.getElem?_append_left (by simp; omega)]
    simp [List.getD, e, hj]
  · exact ((Below.refl _ _).drew).alloc (Nat.le_refl _) _
  · show (W.heap.push _).size = _
    simp
end Go.Proofs.Ytmafibbnojdpjaa.St
end
section
set_option linter.unusedVariables false
set_option maxRecDepth 100000
set_option linter.unusedSimpArgs false
namespace Go.Proofs.Ytmafibbnojdpjaa.St
open Go.Proofs.Ytmafibbnojdpjaa.Tr Go.RowKit Go.Proofs.YtmafibbnojdpjaaW.PrintWords Go.Proofs.YtmafibbnojdpjaaW.PrintLast Go.Proofs.YtmafibbnojdpjaaW.PrintMore Go.Proofs.Ytmafibbnojdpjaa.P
variable {w w' : World} {r : Nat} {st : RecP.St}
theorem or_byte (x b : Nat) (hx : x * 256 < 18446744073709551616) (hb : b < 256) : bits .or .u64 ((x * 256 : Nat) : Int) (b : Int) = ((x * 256 + b : Nat) : Int) := by
  have h1 : (BitVec.ofInt 64 ((x * 256 : Nat) : Int)).toNat = x * 256 := by
    rw [BitVec.toNat_ofInt]
    omega
  have h2 : (BitVec.ofInt 64 (b : Int)).toNat = b := by
    rw [BitVec.toNat_ofInt]
    omega
  have h3 : x * 256 ||| b = x * 256 + b := by
    have := Nat.shiftLeft_add_eq_or_of_lt (i := 8) (b := b) (by omega) x
    rw [Nat.shiftLeft_eq] at this
    exact this.symm
  have h : (BitVec.ofInt 64 ((x * 256 : Nat) : Int) ||| BitVec.ofInt 64 (b : Int)).toNat = x * 256 + b := by
    rw [BitVec.toNat_or, h1, h2, h3]
  show IntKind.u64.wrap (((BitVec.ofInt 64 ((x * 256 : Nat) : Int) ||| BitVec.ofInt 64 (b : Int)).toNat : Nat) : Int) = _
  rw [h, RecEv.wrap_u64]
  omega
theorem val_step (l : List UInt8) {i : Nat} (h : i < l.length) : RecP.val (l.take (i + 1)) = RecP.val (l.take i) * 256 + (l.getD i 0).toNat := by
  rw [List.take_succ_eq_append_getElem h, RecP.val_snoc]
  simp [List.getD, List.getElem?_eq_getElem h]
theorem val_small {l : List UInt8} {i : Nat} (h : i < l.length) (h8 : l.length ≤ 8) : RecP.val (l.take i) * 256 < 18446744073709551616 := by
  have h1 := RecP.val_lt (l.take i)
  have h2 : (l.take i).length ≤ 7 := by rw [List.length_take]; omega
  have h3 : 256 ^ (l.take i).length ≤ 256 ^ 7 := Nat.pow_le_pow_right (by decide) h2
  have h4 : (256 : Nat) ^ 7 = 72057594037927936 := by decide
  omega
/-- the test ahead of a number -/
theorem numB_cons (a : UInt8) (t : List UInt8) : RecP.numB (a :: t) = true ↔ a.toNat ≤ 8 ∧ a.toNat ≤ t.length ∧ (a.toNat = 0 ∨ (t.getD 0 0).toNat ≠ 0) := by
  unfold RecP.numB
  simp only [Bool.and_eq_true, decide_eq_true_eq, Bool.not_eq_true', Bool.and_eq_false_iff, decide_eq_false_iff_not]
  constructor
  · rintro ⟨⟨h1, h2⟩, h3⟩
    refine ⟨h1, h2, ?_⟩
    rcases h3 with h3 | h3
    · exact .inl (by omega)
    · cases t with
      | nil => exact .inl (by simp at h2; omega)
      | cons b t =>
        refine .inr (fun e => h3 ?_)
        have : b = 0 := by rw [← UInt8.ofNat_toNat (x := b), show b.toNat = 0 from e]; rfl
        rw [this]; rfl
  · rintro ⟨h1, h2, h3⟩
    refine ⟨⟨h1, h2⟩, ?_⟩
    rcases h3 with h3 | h3
    · exact .inl (by omega)
    · refine .inr (fun e => h3 ?_)
      cases t with
      | nil => cases e
      | cons b t =>
        simp at e
        subst e
        rfl
theorem numR_bad {a : UInt8} {t : List UInt8} {m : Nat} (h : ¬ RecP.numB (a :: t) = true) : RecP.numR m (some (a :: t)) = (0, none) := by
  have e : RecP.numD m (a :: t) = none := by unfold RecP.numD; rw [if_neg h]
  unfold RecP.numR
  simp only [e]
set_option maxHeartbeats 4000000 in
theorem rd_num0 (h : RdAt w r st) (hs : st = none ∨ st = some []) (most : Int) : Calls Try.prog 73 #[.pointer (some ⟨r, 0, none⟩), .int .i64 most] w (RdPost w r none (.int .i64 0)) := by
  have c0 := h.c0
  have c1 := h.c1
  rcases hs with rfl | rfl
  · have HH := Aside0.mk h
    clear h c0
    go_enter Try.func73, Try.ntmps73
    go_wp2
    go_ret
    exact ⟨rfl, HH.out, Fr.refl _ _⟩
  · have HFN := Aside0.mk fun n => rd_fail (h.below (pw_below_drewN (Below.refl _ _) n))
    have HF1 := Aside0.mk (rd_fail (h.below (below_drew1 (Below.refl _ _))))
    have e0 : (sB (some [])).toList.isEmpty = true := by rw [ByteArray.toList_eq]; rfl
    clear h
    generalize sB (some []) = sb at *
    go_enter Try.func73, Try.ntmps73
    go_wp2
    go_region
    all_goals
      go_wp2_with (go_at_call 97; refine HF1.out.mono ?_; rintro e w1 ⟨rfl, h1, h2⟩; have H1 := Aside0.mk h1; have H2 := Aside0.mk h2; clear h1 h2)
      go_ret
      exact ⟨rfl, H1.out, (Fr.drew _).trans H2.out⟩
set_option maxHeartbeats 8000000 in
theorem rd_num_bad (a : UInt8) (t : List UInt8) (h : RdAt w r (some (a :: t))) (hl : t.length ≤ 100000000) (most : Int) (hb : ¬ RecP.numB (a :: t) = true) : Calls Try.prog 73 #[.pointer (some ⟨r, 0, none⟩), .int .i64 most] w (RdPost w r none (.int .i64 0)) := by
  have c0 := h.c0
  have c1 := h.c1
  have HF1 := Aside0.mk (rd_fail (h.below (below_drew1 (Below.refl _ _))))
  have hsz : (sB (some (a :: t))).size = t.length + 1 := by show (a :: t).toArray.size = _; simp
  have hb0 : ∀ q : 0 < (sB (some (a :: t))).size, ((sB (some (a :: t)))[0]'q).toNat = a.toNat := fun _ => rfl
  have hb1 : ∀ q : 1 < (sB (some (a :: t))).size, ((sB (some (a :: t)))[1]'q).toNat = (t.getD 0 0).toNat := fun q => by
    cases t with
    | nil => rw [hsz] at q; simp at q
    | cons b t => rfl
  have e0 : (sB (some (a :: t))).toList.isEmpty = false := by rw [ByteArray.toList_eq]; rfl
  have h0 : 0 < (sB (some (a :: t))).size := by omega
  have h0' : (0 : Int) < ((sB (some (a :: t))).size : Int) := by omega
  rw [numB_cons] at hb
  clear h
  generalize sB (some (a :: t)) = sb at *
  generalize a.toNat = an at *
  generalize (t.getD 0 0).toNat = bn at *
  by_cases k1 : an ≤ 8
  · have y1 : ¬ (8 : Int) < (an : Int) := by omega
    have y1' : ¬ 8 < an := by omega
    have y1c : decide ((8 : Int) < (an : Int)) = false := decide_eq_false y1
    have y1d : decide (8 < an) = false := decide_eq_false y1'
    have wr0 : IntKind.i64.wrap (an : Int) = (an : Int) := by rw [IntKind.wrap_i64]; omega
    obtain ⟨N1, hN1⟩ : ∃ N1 : Nat, N1 = an + 1 := ⟨_, rfl⟩
    have wr1 : IntKind.i64.wrap (1 + (an : Int)) = (N1 : Int) := by rw [IntKind.wrap_i64]; omega
    by_cases k2 : an ≤ t.length
    · have y2 : ¬ (sb.size : Int) < (N1 : Int) := by omega
      have y2' : ¬ sb.size < N1 := by omega
      have y2c : decide ((sb.size : Int) < (N1 : Int)) = false := decide_eq_false y2
      have y2d : decide (sb.size < N1) = false := decide_eq_false y2'
      have k3 : 0 < an ∧ bn = 0 := by
        refine ⟨?_, ?_⟩
        · refine Nat.pos_of_ne_zero (fun e => hb ⟨k1, k2, .inl e⟩)
        · exact Classical.byContradiction (fun e => hb ⟨k1, k2, .inr e⟩)
      have y3 : (0 : Int) < (an : Int) := by omega
      have y3c : decide ((0 : Int) < (an : Int)) = true := decide_eq_true y3
      have y3d : decide (0 < an) = true := decide_eq_true k3.1
      have y4 : 1 < sb.size := by omega
      have y4' : (1 : Int) < (sb.size : Int) := by omega
      obtain ⟨k3a, k3b⟩ := k3
      subst k3b
      clear hb hN1 k1 k2 hsz hl
      go_enter Try.func73, Try.ntmps73
      go_wp2
      go_region
      all_goals
        go_wp2_with (go_at_call 97; refine HF1.out.mono ?_; rintro e w1 ⟨rfl, h1, h2⟩; have H1 := Aside0.mk h1; have H2 := Aside0.mk h2; clear h1 h2)
        go_ret
        exact ⟨rfl, H1.out, (Fr.drew _).trans H2.out⟩
    · have y2 : (sb.size : Int) < (N1 : Int) := by omega
      have y2' : sb.size < N1 := by omega
      have y2c : decide ((sb.size : Int) < (N1 : Int)) = true := decide_eq_true y2
      have y2d : decide (sb.size < N1) = true := decide_eq_true y2'
      clear hb hN1 k1 k2 hsz hl
      go_enter Try.func73, Try.ntmps73
      go_wp2
      go_region
      all_goals
        go_wp2_with (go_at_call 97; refine HF1.out.mono ?_; rintro e w1 ⟨rfl, h1, h2⟩; have H1 := Aside0.mk h1; have H2 := Aside0.mk h2; clear h1 h2)
        go_ret
        exact ⟨rfl, H1.out, (Fr.drew _).trans H2.out⟩
  · have y1 : (8 : Int) < (an : Int) := by omega
    have y1' : 8 < an := by omega
    have y1c : decide ((8 : Int) < (an : Int)) = true := decide_eq_true y1
    have y1d : decide (8 < an) = true := decide_eq_true y1'
    clear hb k1 hsz hl
    go_enter Try.func73, Try.ntmps73
    go_wp2
    go_region
    all_goals
      go_wp2_with (go_at_call 97; refine HF1.out.mono ?_; rintro e w1 ⟨rfl, h1, h2⟩; have H1 := Aside0.mk h1; have H2 := Aside0.mk h2; clear h1 h2)
      go_ret
      exact ⟨rfl, H1.out, (Fr.drew _).trans H2.out⟩
theorem numR_good {a : UInt8} {t : List UInt8} {m : Nat} (h : RecP.numB (a :: t) = true) : RecP.numR m (some (a :: t)) = if RecP.val (t.take a.toNat) ≤ m then (RecP.val (t.take a.toNat), some (t.drop a.toNat)) else (0, none) := by
  have e : RecP.numD m (a :: t) = if RecP.val (t.take a.toNat) ≤ m then some (RecP.val (t.take a.toNat), t.drop a.toNat) else none := by unfold RecP.numD; rw [if_pos h]; rfl
  unfold RecP.numR
  simp only [e]
  by_cases hv : RecP.val (t.take a.toNat) ≤ m
  · rw [if_pos hv, if_pos hv]
  · rw [if_neg hv, if_neg hv]
set_option maxHeartbeats 16000000 in
theorem rd_num_good (a : UInt8) (t : List UInt8) (h : RdAt w r (some (a :: t))) (hl : t.length ≤ 100000000) (most : Int) (hm : most ≤ 9223372036854775807) (hb : RecP.numB (a :: t) = true) : Calls Try.prog 73 #[.pointer (some ⟨r, 0, none⟩), .int .i64 most] w (RdPost w r (RecP.numR most.toNat (some (a :: t))).2 (.int .i64 ((RecP.numR most.toNat (some (a :: t))).1 : Int))) := by
  rw [numR_good hb]
  have c0 := h.c0
  have c1 := h.c1
  have fz0 := h.fz 0
  have HH := Aside0.mk h
  have hsz : (sB (some (a :: t))).size = t.length + 1 := by show (a :: t).toArray.size = _; simp
  have hb0 : ∀ q : 0 < (sB (some (a :: t))).size, ((sB (some (a :: t)))[0]'q).toNat = a.toNat := fun _ => rfl
  have hb1 : ∀ q : 1 < (sB (some (a :: t))).size, ((sB (some (a :: t)))[1]'q).toNat = (t.getD 0 0).toNat := fun q => by
    cases t with
    | nil => rw [hsz] at q; simp at q
    | cons b t => rfl
  have e0 : (sB (some (a :: t))).toList.isEmpty = false := by rw [ByteArray.toList_eq]; rfl
  have h0 : 0 < (sB (some (a :: t))).size := by omega
  have h0' : (0 : Int) < ((sB (some (a :: t))).size : Int) := by omega
  rw [numB_cons] at hb
  obtain ⟨k1, k2, k3⟩ := hb
  obtain ⟨N1, hN1⟩ : ∃ N1 : Nat, N1 = a.toNat + 1 := ⟨_, rfl⟩
  have y2 : ¬ (((sB (some (a :: t))).size : Nat) : Int) < (N1 : Int) := by omega
  have y2' : ¬ (sB (some (a :: t))).size < N1 := by omega
  have HEX : Aside0 ((sB (some (a :: t))).extract 1 N1 = ⟨(t.take a.toNat).toArray⟩ ∧ (sB (some (a :: t))).extract N1 (sB (some (a :: t))).size = sB (some (t.drop a.toNat))) := ⟨by
    have eB : sB (some (a :: t)) = FrEv.B (a :: t) := rfl
    constructor
    · rw [eB, FrEv.B_extract, hN1]
      rfl
    · rw [eB, FrEv.B_from, hN1]
      rfl⟩
  have HTL : Aside0 ((t.take a.toNat).length = a.toNat) := ⟨by rw [List.length_take]; omega⟩
  have HV8 : Aside0 (∀ i, i < a.toNat → RecP.val ((t.take a.toNat).take (i + 1)) = RecP.val ((t.take a.toNat).take i) * 256 + ((t.take a.toNat).getD i 0).toNat ∧ RecP.val ((t.take a.toNat).take i) * 256 < 18446744073709551616) := ⟨fun i hi => by
    have hl2 : (t.take a.toNat).length = a.toNat := by rw [List.length_take]; omega
    exact ⟨val_step _ (by omega), val_small (by omega) (by omega)⟩⟩
  have HVE : Aside0 (RecP.val ((t.take a.toNat).take a.toNat) = RecP.val (t.take a.toNat)) := ⟨by rw [List.take_of_length_le (by rw [List.length_take]; omega)]⟩
  have hk3 : (a.toNat = 0) ∨ (0 < a.toNat ∧ (t.getD 0 0).toNat ≠ 0) := by
    rcases k3 with k3 | k3
    · exact .inl k3
    · rcases Nat.eq_zero_or_pos a.toNat with q | q
      · exact .inl q
      · exact .inr ⟨q, k3⟩
  have HSD : Aside0 ((sB (some (t.drop a.toNat))).size ≤ 100000000) := ⟨by show (t.drop a.toNat).toArray.size ≤ _; simp; omega⟩
  have HHD : Aside0 (∀ W : World, (W.heap[r]? = some (.cells #[.string (sB (some (a :: t))), .bool false] 160 (0, 0))) → RdAt (W.setCell ⟨r, 0, none⟩ (.string (sB (some (t.drop a.toNat))))) r (some (t.drop a.toNat))) := ⟨fun W hW => ⟨(heap_setCell_at W r 0 _ _ _ _ hW).trans rfl⟩⟩
  have HHE : Aside0 (w.heap[r]? = some (.cells #[.string (sB (some (a :: t))), .bool false] 160 (0, 0))) := ⟨h.head⟩
  have n1 : (1 : Int) ≤ (N1 : Int) := by omega
  have n2 : (N1 : Int) ≤ (((sB (some (a :: t))).size : Nat) : Int) := by omega
  have wr0 : IntKind.i64.wrap (a.toNat : Int) = (a.toNat : Int) := by rw [IntKind.wrap_i64]; omega
  have wr1 : IntKind.i64.wrap (1 + (a.toNat : Int)) = (N1 : Int) := by rw [IntKind.wrap_i64]; omega
  have y1 : ¬ (8 : Int) < (a.toNat : Int) := by omega
  have y1' : ¬ 8 < a.toNat := by omega
  have y1c : decide ((8 : Int) < (a.toNat : Int)) = false := decide_eq_false y1
  have y1d : decide (8 < a.toNat) = false := decide_eq_false y1'
  clear h hN1
  generalize t.drop a.toNat = rest at *
  generalize hTT : t.take a.toNat = T at *
  generalize sB (some (a :: t)) = sb at *
  generalize a.toNat = an at *
  generalize (t.getD 0 0).toNat = bn at *
  clear hTT k3
  have y4 : 0 < an → 1 < sb.size := fun q => by omega
  have y2c : decide ((sb.size : Int) < (N1 : Int)) = false := decide_eq_false y2
  have y2d : decide (sb.size < N1) = false := decide_eq_false y2'
  have HT8 : Aside0 (an ≤ 8) := ⟨k1⟩
  obtain ⟨gB, capB, w1, hcv, hcb, hbw, _⟩ := conv_bytes w.drew ⟨T.toArray⟩ (by show T.toArray.size ≤ maxLen; have h1 := HTL.out; unfold maxLen; simp; omega)
  have hsT : (⟨T.toArray⟩ : ByteArray).size = an := by show T.toArray.size = an; rw [List.size_toArray]; exact HTL.out
  rw [← HEX.out.1] at hcv
  rw [hsT] at hcb
  have hsE : (sb.extract 1 N1).size = an := by rw [HEX.out.1]; exact hsT
  rw [hsE] at hcv
  have HCB := Aside0.mk hcb
  have HBW := Aside0.mk hbw
  have hbd : Below w.heap.size w w1 := below_step (below_drew1 (Below.refl _ _)) hbw
  have HBD := Aside0.mk hbd
  have c0' := up hbd c0
  have hrw : r < w.heap.size := (Array.getElem?_eq_some_iff.1 HHE.out).1
  have HR1 : Aside0 (w1.heap[r]? = some (.cells #[.string sb, .bool false] 160 (0, 0))) := ⟨(hbd.block r hrw).trans HHE.out⟩
  clear hcb hbw hbd hsT hsE hsz k1 k2
  obtain ⟨mm, hmm⟩ : ∃ mm : Nat, mm = most.toNat := ⟨_, rfl⟩
  rw [← hmm]
  have hmx : ∀ ats ty W, (Builtin.max_ ats ty #[.int .i64 most, .int .i64 0]).run Try.prog W = .ok (.int .i64 (mm : Int)) W := fun ats ty W => by
    rw [max_two, max2_int]
    have e : (if most < 0 then (0 : Int) else most) = (mm : Int) := by rw [hmm]; split <;> omega
    rw [e]
    rfl
  have wm : IntKind.u64.wrap (mm : Int) = (mm : Int) := by rw [RecEv.wrap_u64]; omega
  have HMM : Aside0 (mm ≤ 9223372036854775807) := ⟨by omega⟩
  clear hmm hm
  by_cases hv : RecP.val T ≤ mm
  · rw [if_pos hv]
    have q1 : ¬ (mm : Int) < ((RecP.val T : Nat) : Int) := by omega
    have q2 : decide ((mm : Int) < ((RecP.val T : Nat) : Int)) = false := decide_eq_false q1
    have w3 : IntKind.i64.wrap ((RecP.val T : Nat) : Int) = ((RecP.val T : Nat) : Int) := by have := HMM.out; rw [IntKind.wrap_i64]; omega
    clear hv
    rcases hk3 with hz | ⟨hp, hbn⟩
    · have y3 : ¬ (0 : Int) < (an : Int) := by omega
      have y3c : decide ((0 : Int) < (an : Int)) = false := decide_eq_false y3
      have y3d : decide (0 < an) = false := decide_eq_false (by omega)
      clear hz y4 hb1
      go_enter Try.func73, Try.ntmps73
      go_wp2
      go_region
      go_wp2
      go_loopg [78, 6] (an + 1) (fun kq v78 v6 wq => ∃ (i x : Nat), v78 = .int .i64 (i : Int) ∧ v6 = .int .u64 (x : Int) ∧ i ≤ an ∧ an - i < kq ∧ Aside0 (x = RecP.val (T.take i)) ∧ Aside0 (Below w1.heap.size w1 wq))
      case atStart => exact ⟨0, 0, rfl, rfl, Nat.zero_le _, by omega, ⟨rfl⟩, ⟨Below.refl _ _⟩⟩
      case round =>
        obtain ⟨i, x, rfl, rfl, hi, hk, HX, HB⟩ := hrel
        by_cases hlt : i < an
        · have z0 : (0 : Int) ≤ (i : Int) := by omega
          have z1 : (i : Int) < (an : Int) := by omega
          have f0 := up HB.out (HCB.out i hlt)
          have hv8 := HV8.out i hlt
          rw [← HX.out] at hv8
          obtain ⟨bi, hbi⟩ : ∃ bi : Nat, bi = (T.getD i 0).toNat := ⟨_, rfl⟩
          have hbi2 : bi < 256 := by rw [hbi]; exact UInt8.toNat_lt _
          rw [show (({ data := T.toArray } : ByteArray).data.toList.getD i 0).toNat = bi from by rw [hbi]] at f0
          rw [← hbi] at hv8
          have s1 : IntKind.u64.wrap ((x : Int) * 256) = ((x * 256 : Nat) : Int) := by rw [RecEv.wrap_u64]; have := hv8.2; omega
          have s2 : IntKind.u64.wrap (bi : Int) = (bi : Int) := by rw [RecEv.wrap_u64]; omega
          have s3 := or_byte x bi hv8.2 hbi2
          obtain ⟨x9, hx9⟩ : ∃ x9 : Nat, x9 = x * 256 + bi := ⟨_, rfl⟩
          rw [← hx9] at s3 hv8
          obtain ⟨y9, hy9⟩ : ∃ y9 : Nat, y9 = x * 256 := ⟨_, rfl⟩
          rw [← hy9] at s1 s3
          have HX9 : Aside0 (x9 = RecP.val (T.take (i + 1))) := ⟨hv8.1.symm⟩
          clear hbi hx9 hy9 hv8 hbi2
          go_wp2
          go_roundg (gk - 1)
          case measure => omega
          case rel => exact ⟨i + 1, x9, by go_num, rfl, by omega, by omega, HX9, HB⟩
        · have hiz : i = an := by omega
          subst hiz
          have hx := HX.out
          rw [HVE.out] at hx
          subst hx
          have HRW := HHD.out wr ((HB.out.block r (by have := HBD.out.size; omega)).trans HR1.out)
          have c0r := up HB.out c0'
          have fzr : wr.frozen? ⟨r, 0, none⟩ = false := by
            have hh := (HB.out.block r (by have := HBD.out.size; omega)).trans HR1.out
            simp [World.frozen?, hh]
          have sl := HEX.out.2
          have HRD := Aside0.mk HRW
          have HWB := Aside0.mk (below_step HBD.out HB.out)
          clear HRW hi hk hlt HX
          go_wp2
          go_ret
          exact ⟨rfl, HRD.out, (Fr.below HWB.out).trans (Fr.setCell (F := oneB r) _ r _ _ rfl)⟩
    · have y3 : (0 : Int) < (an : Int) := by omega
      have y3c : decide ((0 : Int) < (an : Int)) = true := decide_eq_true y3
      have y3d : decide (0 < an) = true := decide_eq_true hp
      have y5 := y4 hp
      have y5' : (1 : Int) < (sb.size : Int) := by omega
      have y6 : ((bn : Int) == 0) = false := beq_eq_false_iff_ne.2 (by omega)
      clear hbn y4
      go_enter Try.func73, Try.ntmps73
      go_wp2
      go_region
      go_wp2
      go_loopg [78, 6] (an + 1) (fun kq v78 v6 wq => ∃ (i x : Nat), v78 = .int .i64 (i : Int) ∧ v6 = .int .u64 (x : Int) ∧ i ≤ an ∧ an - i < kq ∧ Aside0 (x = RecP.val (T.take i)) ∧ Aside0 (Below w1.heap.size w1 wq))
      case atStart => exact ⟨0, 0, rfl, rfl, Nat.zero_le _, by omega, ⟨rfl⟩, ⟨Below.refl _ _⟩⟩
      case round =>
        obtain ⟨i, x, rfl, rfl, hi, hk, HX, HB⟩ := hrel
        by_cases hlt : i < an
        · have z0 : (0 : Int) ≤ (i : Int) := by omega
          have z1 : (i : Int) < (an : Int) := by omega
          have f0 := up HB.out (HCB.out i hlt)
          have hv8 := HV8.out i hlt
          rw [← HX.out] at hv8
          obtain ⟨bi, hbi⟩ : ∃ bi : Nat, bi = (T.getD i 0).toNat := ⟨_, rfl⟩
          have hbi2 : bi < 256 := by rw [hbi]; exact UInt8.toNat_lt _
          rw [show (({ data := T.toArray } : ByteArray).data.toList.getD i 0).toNat = bi from by rw [hbi]] at f0
          rw [← hbi] at hv8
          have s1 : IntKind.u64.wrap ((x : Int) * 256) = ((x * 256 : Nat) : Int) := by rw [RecEv.wrap_u64]; have := hv8.2; omega
          have s2 : IntKind.u64.wrap (bi : Int) = (bi : Int) := by rw [RecEv.wrap_u64]; omega
          have s3 := or_byte x bi hv8.2 hbi2
          obtain ⟨x9, hx9⟩ : ∃ x9 : Nat, x9 = x * 256 + bi := ⟨_, rfl⟩
          rw [← hx9] at s3 hv8
          obtain ⟨y9, hy9⟩ : ∃ y9 : Nat, y9 = x * 256 := ⟨_, rfl⟩
          rw [← hy9] at s1 s3
          have HX9 : Aside0 (x9 = RecP.val (T.take (i + 1))) := ⟨hv8.1.symm⟩
          clear hbi hx9 hy9 hv8 hbi2
          go_wp2
          go_roundg (gk - 1)
          case measure => omega
          case rel => exact ⟨i + 1, x9, by go_num, rfl, by omega, by omega, HX9, HB⟩
        · have hiz : i = an := by omega
          subst hiz
          have hx := HX.out
          rw [HVE.out] at hx
          subst hx
          have HRW := HHD.out wr ((HB.out.block r (by have := HBD.out.size; omega)).trans HR1.out)
          have c0r := up HB.out c0'
          have fzr : wr.frozen? ⟨r, 0, none⟩ = false := by
            have hh := (HB.out.block r (by have := HBD.out.size; omega)).trans HR1.out
            simp [World.frozen?, hh]
          have sl := HEX.out.2
          have HRD := Aside0.mk HRW
          have HWB := Aside0.mk (below_step HBD.out HB.out)
          clear HRW hi hk hlt HX
          go_wp2
          go_ret
          exact ⟨rfl, HRD.out, (Fr.below HWB.out).trans (Fr.setCell (F := oneB r) _ r _ _ rfl)⟩
  · rw [if_neg hv]
    have q1 : (mm : Int) < ((RecP.val T : Nat) : Int) := by omega
    have q2 : decide ((mm : Int) < ((RecP.val T : Nat) : Int)) = true := decide_eq_true q1
    clear hv
    rcases hk3 with hz | ⟨hp, hbn⟩
    · have y3 : ¬ (0 : Int) < (an : Int) := by omega
      have y3c : decide ((0 : Int) < (an : Int)) = false := decide_eq_false y3
      have y3d : decide (0 < an) = false := decide_eq_false (by omega)
      clear hz y4 hb1
      go_enter Try.func73, Try.ntmps73
      go_wp2
      go_region
      go_wp2
      go_loopg [78, 6] (an + 1) (fun kq v78 v6 wq => ∃ (i x : Nat), v78 = .int .i64 (i : Int) ∧ v6 = .int .u64 (x : Int) ∧ i ≤ an ∧ an - i < kq ∧ Aside0 (x = RecP.val (T.take i)) ∧ Aside0 (Below w1.heap.size w1 wq))
      case atStart => exact ⟨0, 0, rfl, rfl, Nat.zero_le _, by omega, ⟨rfl⟩, ⟨Below.refl _ _⟩⟩
      case round =>
        obtain ⟨i, x, rfl, rfl, hi, hk, HX, HB⟩ := hrel
        by_cases hlt : i < an
        · have z0 : (0 : Int) ≤ (i : Int) := by omega
          have z1 : (i : Int) < (an : Int) := by omega
          have f0 := up HB.out (HCB.out i hlt)
          have hv8 := HV8.out i hlt
          rw [← HX.out] at hv8
          obtain ⟨bi, hbi⟩ : ∃ bi : Nat, bi = (T.getD i 0).toNat := ⟨_, rfl⟩
          have hbi2 : bi < 256 := by rw [hbi]; exact UInt8.toNat_lt _
          rw [show (({ data := T.toArray } : ByteArray).data.toList.getD i 0).toNat = bi from by rw [hbi]] at f0
          rw [← hbi] at hv8
          have s1 : IntKind.u64.wrap ((x : Int) * 256) = ((x * 256 : Nat) : Int) := by rw [RecEv.wrap_u64]; have := hv8.2; omega
          have s2 : IntKind.u64.wrap (bi : Int) = (bi : Int) := by rw [RecEv.wrap_u64]; omega
          have s3 := or_byte x bi hv8.2 hbi2
          obtain ⟨x9, hx9⟩ : ∃ x9 : Nat, x9 = x * 256 + bi := ⟨_, rfl⟩
          rw [← hx9] at s3 hv8
          obtain ⟨y9, hy9⟩ : ∃ y9 : Nat, y9 = x * 256 := ⟨_, rfl⟩
          rw [← hy9] at s1 s3
          have HX9 : Aside0 (x9 = RecP.val (T.take (i + 1))) := ⟨hv8.1.symm⟩
          clear hbi hx9 hy9 hv8 hbi2
          go_wp2
          go_roundg (gk - 1)
          case measure => omega
          case rel => exact ⟨i + 1, x9, by go_num, rfl, by omega, by omega, HX9, HB⟩
        · have hiz : i = an := by omega
          subst hiz
          have hx := HX.out
          rw [HVE.out] at hx
          subst hx
          have HRW := HHD.out wr ((HB.out.block r (by have := HBD.out.size; omega)).trans HR1.out)
          have c0r := up HB.out c0'
          have fzr : wr.frozen? ⟨r, 0, none⟩ = false := by
            have hh := (HB.out.block r (by have := HBD.out.size; omega)).trans HR1.out
            simp [World.frozen?, hh]
          have sl := HEX.out.2
          have HRD := Aside0.mk HRW
          have HWB := Aside0.mk (below_step HBD.out HB.out)
          clear HRW hi hk hlt HX
          have HF := Aside0.mk (rd_fail HRD.out)
          go_wp2_with (go_at_call 97; refine HF.out.mono ?_; rintro e w5 ⟨rfl, h1, h2⟩; have H1 := Aside0.mk h1; have H2 := Aside0.mk h2; clear h1 h2)
          go_ret
          exact ⟨rfl, H1.out, ((Fr.below HWB.out).trans (Fr.setCell (F := oneB r) _ r _ _ rfl)).trans H2.out⟩
    · have y3 : (0 : Int) < (an : Int) := by omega
      have y3c : decide ((0 : Int) < (an : Int)) = true := decide_eq_true y3
      have y3d : decide (0 < an) = true := decide_eq_true hp
      have y5 := y4 hp
      have y5' : (1 : Int) < (sb.size : Int) := by omega
      have y6 : ((bn : Int) == 0) = false := beq_eq_false_iff_ne.2 (by omega)
      clear hbn y4
      go_enter Try.func73, Try.ntmps73
      go_wp2
      go_region
      go_wp2
      go_loopg [78, 6] (an + 1) (fun kq v78 v6 wq => ∃ (i x : Nat), v78 = .int .i64 (i : Int) ∧ v6 = .int .u64 (x : Int) ∧ i ≤ an ∧ an - i < kq ∧ Aside0 (x = RecP.val (T.take i)) ∧ Aside0 (Below w1.heap.size w1 wq))
      case atStart => exact ⟨0, 0, rfl, rfl, Nat.zero_le _, by omega, ⟨rfl⟩, ⟨Below.refl _ _⟩⟩
      case round =>
        obtain ⟨i, x, rfl, rfl, hi, hk, HX, HB⟩ := hrel
        by_cases hlt : i < an
        · have z0 : (0 : Int) ≤ (i : Int) := by omega
          have z1 : (i : Int) < (an : Int) := by omega
          have f0 := up HB.out (HCB.out i hlt)
          have hv8 := HV8.out i hlt
          rw [← HX.out] at hv8
          obtain ⟨bi, hbi⟩ : ∃ bi : Nat, bi = (T.getD i 0).toNat := ⟨_, rfl⟩
          have hbi2 : bi < 256 := by rw [hbi]; exact UInt8.toNat_lt _
          rw [show (({ data := T.toArray } : ByteArray).data.toList.getD i 0).toNat = bi from by rw [hbi]] at f0
          rw [← hbi] at hv8
          have s1 : IntKind.u64.wrap ((x : Int) * 256) = ((x * 256 : Nat) : Int) := by rw [RecEv.wrap_u64]; have := hv8.2; omega
          have s2 : IntKind.u64.wrap (bi : Int) = (bi : Int) := by rw [RecEv.wrap_u64]; omega
          have s3 := or_byte x bi hv8.2 hbi2
          obtain ⟨x9, hx9⟩ : ∃ x9 : Nat, x9 = x * 256 + bi := ⟨_, rfl⟩
          rw [← hx9] at s3 hv8
          obtain ⟨y9, hy9⟩ : ∃ y9 : Nat, y9 = x * 256 := ⟨_, rfl⟩
          rw [← hy9] at s1 s3
          have HX9 : Aside0 (x9 = RecP.val (T.take (i + 1))) := ⟨hv8.1.symm⟩
          clear hbi hx9 hy9 hv8 hbi2
          go_wp2
          go_roundg (gk - 1)
          case measure => omega
          case rel => exact ⟨i + 1, x9, by go_num, rfl, by omega, by omega, HX9, HB⟩
        · have hiz : i = an := by omega
          subst hiz
          have hx := HX.out
          rw [HVE.out] at hx
          subst hx
          have HRW := HHD.out wr ((HB.out.block r (by have := HBD.out.size; omega)).trans HR1.out)
          have c0r := up HB.out c0'
          have fzr : wr.frozen? ⟨r, 0, none⟩ = false := by
            have hh := (HB.out.block r (by have := HBD.out.size; omega)).trans HR1.out
            simp [World.frozen?, hh]
          have sl := HEX.out.2
          have HRD := Aside0.mk HRW
          have HWB := Aside0.mk (below_step HBD.out HB.out)
          clear HRW hi hk hlt HX
          have HF := Aside0.mk (rd_fail HRD.out)
          go_wp2_with (go_at_call 97; refine HF.out.mono ?_; rintro e w5 ⟨rfl, h1, h2⟩; have H1 := Aside0.mk h1; have H2 := Aside0.mk h2; clear h1 h2)
          go_ret
          exact ⟨rfl, H1.out, ((Fr.below HWB.out).trans (Fr.setCell (F := oneB r) _ r _ _ rfl)).trans H2.out⟩
theorem sB_cons (a : UInt8) (t : List UInt8) : (sB (some (a :: t))).size = t.length + 1 := by show (a :: t).toArray.size = _; simp
theorem rd_num (h : RdAt w r st) (hl : (sB st).size ≤ 100000000) (most : Int) (hm : most ≤ 9223372036854775807) : Calls Try.prog 73 #[.pointer (some ⟨r, 0, none⟩), .int .i64 most] w (RdPost w r (RecP.numR most.toNat st).2 (.int .i64 ((RecP.numR most.toNat st).1 : Int))) := by
  cases st with
  | none => exact rd_num0 h (.inl rfl) most
  | some s =>
    cases s with
    | nil => exact rd_num0 h (.inr rfl) most
    | cons a t =>
      rw [sB_cons] at hl
      by_cases hb : RecP.numB (a :: t) = true
      · exact rd_num_good a t h (by omega) most hm hb
      · rw [numR_bad hb]
        exact rd_num_bad a t h (by omega) most hb
end Go.Proofs.Ytmafibbnojdpjaa.St
end
section
set_option linter.unusedVariables false
set_option maxRecDepth 100000
set_option linter.unusedSimpArgs false
namespace Go.Proofs.Ytmafibbnojdpjaa.St
open Go.Proofs.Ytmafibbnojdpjaa.Tr Go.RowKit Go.Proofs.YtmafibbnojdpjaaW.PrintWords Go.Proofs.YtmafibbnojdpjaaW.PrintLast Go.Proofs.YtmafibbnojdpjaaW.PrintMore Go.Proofs.Ytmafibbnojdpjaa.P
variable {w w' : World} {r : Nat} {st : RecP.St}
def bS (l : List UInt8) : ByteArray := ⟨l.toArray⟩
theorem bS_size (l : List UInt8) : (bS l).size = l.length := by show l.toArray.size = _; simp
theorem sB_some (l : List UInt8) : sB (some l) = bS l := rfl
theorem RdPost.trans {v v1 : Value} {st1 st2 : RecP.St} {w1 w2 : World} {e : Ending} (hf : Fr (oneB r) w w1) (h : RdPost w1 r st2 v e w2) : RdPost w r st2 v e w2 := ⟨h.1, h.2.1, hf.trans h.2.2⟩
set_option maxHeartbeats 8000000 in
theorem rd_text (h : RdAt w r st) (hl : (sB st).size ≤ 100000000) (most : Int) (hm : most ≤ 9223372036854775807) : Calls Try.prog 98 #[.pointer (some ⟨r, 0, none⟩), .int .i64 most] w (RdPost w r (RecP.textR most.toNat st).2 (.string (bS (RecP.textR most.toNat st).1))) := by
  have HN := Aside0.mk (rd_num h hl most hm)
  unfold RecP.textR
  cases hn : RecP.numR most.toNat st with
  | mk n o =>
    rw [hn] at HN
    clear h hl hm hn
    cases o with
    | none =>
      go_enter Try.func98, Try.ntmps98
      go_wp2_with (go_at_call 73; refine HN.out.mono ?_; rintro e w1 ⟨rfl, h1, h2⟩; have c1 := h1.c1; have H1 := Aside0.mk h1; have H2 := Aside0.mk h2; clear h1 h2)
      go_ret
      exact ⟨rfl, H1.out, H2.out⟩
    | some q =>
      simp only
      have hsz := sB_some q
      by_cases hq : n ≤ q.length
      · rw [if_pos hq]
        have e1 : ¬ (((sB (some q)).size : Nat) : Int) < (n : Int) := by rw [sB_some, bS_size]; omega
        have e2 : (n : Int) ≤ (((sB (some q)).size : Nat) : Int) := by omega
        have e3 : (0 : Int) ≤ (n : Int) := by omega
        have x1 : (sB (some q)).extract 0 n = bS (q.take n) := FrEv.B_upto q n
        have x2 : (sB (some q)).extract n (sB (some q)).size = sB (some (q.drop n)) := FrEv.B_from q n
        have HST : Aside0 (∀ W : World, RdAt W r (some q) → RdAt (W.setCell ⟨r, 0, none⟩ (.string (sB (some (q.drop n))))) r (some (q.drop n))) := ⟨fun W hW => ⟨(heap_setCell_at W r 0 _ _ _ _ hW.head).trans rfl⟩⟩
        clear hsz hq
        generalize q.take n = x at *
        go_enter Try.func98, Try.ntmps98
        go_wp2_with (go_at_call 73; refine HN.out.mono ?_; rintro e w1 ⟨rfl, h1, h2⟩
                     have c1 := h1.c1
                     have c0 := h1.c0
                     have z0 := h1.fz 0
                     have H1 := Aside0.mk (HST.out w1 h1)
                     have H2 := Aside0.mk h2
                     clear h1 h2)
        go_ret
        exact ⟨rfl, H1.out, H2.out.trans (Fr.setCell (F := oneB r) _ r _ _ rfl)⟩
      · rw [if_neg hq]
        have e1 : (((sB (some q)).size : Nat) : Int) > (n : Int) ∨ (((sB (some q)).size : Nat) : Int) < (n : Int) := .inr (by rw [sB_some, bS_size]; omega)
        have e2 : (((sB (some q)).size : Nat) : Int) < (n : Int) := by rw [sB_some, bS_size]; omega
        clear hsz hq e1
        go_enter Try.func98, Try.ntmps98
        go_wp2_with (first
          | (go_at_call 73; refine HN.out.mono ?_; rintro e w1 ⟨rfl, h1, h2⟩
             have c1 := h1.c1
             have c0 := h1.c0
             have H2 := Aside0.mk h2
             have HF := Aside0.mk (rd_fail h1)
             clear h1 h2)
          | (go_at_call 97; refine HF.out.mono ?_; rintro e w2 ⟨rfl, h1, h3⟩; have H1 := Aside0.mk h1; have H3 := Aside0.mk h3; clear h1 h3))
        go_ret
        exact ⟨rfl, H1.out, H2.out.trans H3.out⟩
set_option maxHeartbeats 8000000 in
theorem rd_flag (h : RdAt w r st) : Calls Try.prog 99 #[.pointer (some ⟨r, 0, none⟩)] w (RdPost w r (RecP.flagR st).2 (.bool (RecP.flagR st).1)) := by
  have c0 := h.c0
  have c1 := h.c1
  have HH := Aside0.mk h
  have HF := Aside0.mk (rd_fail h)
  cases st with
  | none =>
    clear h c0
    go_enter Try.func99, Try.ntmps99
    go_wp2
    go_ret
    exact ⟨rfl, HH.out, Fr.refl _ _⟩
  | some s =>
    cases s with
    | nil =>
      have e0 : (sB (some [])).toList.isEmpty = true := by rw [ByteArray.toList_eq]; rfl
      clear h
      go_enter Try.func99, Try.ntmps99
      go_wp2_with (go_at_call 97; refine HF.out.mono ?_; rintro e w1 ⟨rfl, h1, h2⟩; have H1 := Aside0.mk h1; have H2 := Aside0.mk h2; clear h1 h2)
      go_ret
      exact ⟨rfl, H1.out, H2.out⟩
    | cons a t =>
      have e0 : (sB (some (a :: t))).toList.isEmpty = false := by rw [ByteArray.toList_eq]; rfl
      have hsz := sB_cons a t
      have h0 : 0 < (sB (some (a :: t))).size := by omega
      have h0' : (1 : Int) ≤ (((sB (some (a :: t))).size : Nat) : Int) := by omega
      have hb0 : ∀ q : 0 < (sB (some (a :: t))).size, ((sB (some (a :: t)))[0]'q).toNat = a.toNat := fun _ => rfl
      have z0 := h.fz 0
      have x2 : (sB (some (a :: t))).extract 1 (sB (some (a :: t))).size = sB (some t) := FrEv.B_from (a :: t) 1
      have HST : Aside0 (RdAt (w.setCell ⟨r, 0, none⟩ (.string (sB (some t)))) r (some t)) := ⟨⟨(heap_setCell_at w r 0 _ _ _ _ h.head).trans rfl⟩⟩
      have hfl : RecP.flagR (some (a :: t)) = if a.toNat ≤ 1 then (decide (a.toNat = 1), some t) else (false, none) := rfl
      rw [hfl]
      clear h hsz hfl
      generalize sB (some (a :: t)) = sb at *
      generalize a.toNat = an at *
      by_cases ha : an ≤ 1
      · rw [if_pos ha]
        have y1 : ¬ (1 : Int) < (an : Int) := by omega
        have y1' : ¬ 1 < an := by omega
        have y2 : ((an : Int) == 1) = decide (an = 1) := by rw [Bool.eq_iff_iff, beq_iff_eq, decide_eq_true_eq]; omega
        clear ha
        generalize decide (an = 1) = bb at *
        go_enter Try.func99, Try.ntmps99
        go_wp2
        go_ret
        exact ⟨rfl, HST.out, Fr.setCell (F := oneB r) _ r _ _ rfl⟩
      · rw [if_neg ha]
        have y1 : (1 : Int) < (an : Int) := by omega
        have y1' : 1 < an := by omega
        clear ha
        go_enter Try.func99, Try.ntmps99
        go_wp2_with (go_at_call 97; refine HF.out.mono ?_; rintro e w1 ⟨rfl, h1, h2⟩; have H1 := Aside0.mk h1; have H2 := Aside0.mk h2; clear h1 h2)
        go_ret
        exact ⟨rfl, H1.out, H2.out⟩
end Go.Proofs.Ytmafibbnojdpjaa.St
end
section
set_option linter.unusedVariables false
set_option maxRecDepth 100000
set_option linter.unusedSimpArgs false
namespace Go.Proofs.Ytmafibbnojdpjaa.St
open Go.Proofs.Ytmafibbnojdpjaa.Tr Go.RowKit Go.Proofs.YtmafibbnojdpjaaW.PrintWords Go.Proofs.YtmafibbnojdpjaaW.PrintLast Go.Proofs.YtmafibbnojdpjaaW.PrintMore Go.Proofs.Ytmafibbnojdpjaa.P
theorem head_any (w : World) : Calls Try.prog 21 #[] w fun e w' => e = .returned (.bool true) ∧ Below w.heap.size w w' := by
  obtain ⟨k, hk⟩ : ∃ k, mailbaglaw11_head.f k = some true := ⟨40, by decide +kernel⟩
  exact mailbaglaw11_head.calls k true w hk
end Go.Proofs.Ytmafibbnojdpjaa.St
end
section
set_option linter.unusedVariables false
set_option maxRecDepth 100000
set_option linter.unusedSimpArgs false
namespace Go.Proofs.Ytmafibbnojdpjaa.ChQ
open Go.RowKit Go.Proofs.Ytmafibbnojdpjaa.C Go.Proofs.Ytmafibbnojdpjaa.P Go.Proofs.YtmafibbnojdpjaaW.PrintWords Go.Proofs.YtmafibbnojdpjaaW.PrintLast
def key (l : List S118) (i : Nat) : Int := (rd_T118 l (i : Int)).f0
theorem bs_spec (p : Nat → Bool) (n r : Nat) (hr : ∀ k, k < r → p k = true) (hs : ∀ k, r ≤ k → k < n → p k = false) :
    ∀ d i j, j - i = d → i ≤ r → r ≤ j → j ≤ n → bs p i j = r := by
  intro d
  induction d using Nat.strongRecOn with
  | _ d ih =>
    intro i j hd hir hrj hjn
    by_cases h : i < j
    · by_cases c : (i + j) / 2 < r
      · rw [bs_on p i j h (hr _ c)]
        exact ih (j - ((i + j) / 2 + 1)) (by omega) _ _ rfl (by omega) hrj hjn
      · rw [bs_back p i j h (hs _ (by omega) (by omega))]
        exact ih ((i + j) / 2 - i) (by omega) _ _ rfl hir (by omega) (by omega)
    · rw [bs_done p i j h]; omega
theorem cmp_lt (a b : Int) : cmpI a b < 0 ↔ a < b := by
  unfold cmpI
  by_cases h : a < b
  · simp [h]
  · by_cases h2 : b < a
    · simp [h, h2]
    · simp [h, h2]
theorem cmp_eq (a b : Int) : cmpI a b = 0 ↔ a = b := by
  unfold cmpI
  by_cases h : a < b
  · simp [h]; omega
  · by_cases h2 : b < a
    · simp [h, h2]; omega
    · simp [h, h2]; omega
theorem less_eq (l : List S118) (x : Int) (i : Nat) : less l x i = decide (key l i < x) := by
  unfold less key
  rw [decide_eq_decide]
  exact cmp_lt _ _
theorem srch_eq (l : List S118) (x : Int) (n : Nat) (hn : n ≤ l.length) (h1 : ∀ i, i < n → key l i < x) (h2 : ∀ i, n ≤ i → i < l.length → x ≤ key l i) : srch l x = n := by
  unfold srch
  refine bs_spec _ l.length n (fun k hk => ?_) (fun k hk hl => ?_) _ 0 _ rfl (Nat.zero_le _) hn (Nat.le_refl _)
  · rw [less_eq]; exact decide_eq_true (h1 k hk)
  · rw [less_eq]; exact decide_eq_false (by have := h2 k hk hl; omega)
theorem behind_eq (l : List S118) (x : Int) (hr : ∀ i j, i < j → j < l.length → key l i < key l j) (n : Nat) (hn : n ≤ l.length) (h1 : ∀ i, i < n → key l i ≤ x) (h2 : ∀ i, n ≤ i → i < l.length → x < key l i) : behindN l x = n := by
  unfold behindN
  by_cases c : 0 < n ∧ key l (n - 1) = x
  · have e : srch l x = n - 1 := srch_eq l x (n - 1) (by omega) (fun i hi => by have := hr i (n - 1) hi (by omega); omega) (fun i hi hl => by
      by_cases c2 : i = n - 1
      · subst c2; omega
      · have := h2 i (by omega) hl; omega)
    have f : fnd l x = true := by
      unfold fnd
      rw [e]
      exact decide_eq_true ⟨by omega, (cmp_eq _ _).2 c.2⟩
    rw [f, if_pos rfl, e]; omega
  · have e : srch l x = n := srch_eq l x n hn (fun i hi => by
      by_cases c2 : i = n - 1
      · subst c2
        have := h1 (n - 1) hi
        have : key l (n - 1) ≠ x := fun h => c ⟨by omega, h⟩
        omega
      · have a := hr i (n - 1) (by omega) (by omega)
        have b := h1 (n - 1) (by omega)
        omega) (fun i hi hl => by have := h2 i hi hl; omega)
    have f : fnd l x = false := by
      unfold fnd
      rw [e]
      refine decide_eq_false ?_
      rintro ⟨ha, hb⟩
      have := (cmp_eq _ _).1 hb
      have h := h2 n (Nat.le_refl _) ha
      unfold key at h
      omega
    rw [f, e]; rfl
end Go.Proofs.Ytmafibbnojdpjaa.ChQ
namespace Go.Proofs.Ytmafibbnojdpjaa.St
open Go.Proofs.Ytmafibbnojdpjaa.ChQ (key behind_eq)
open Go.Proofs.Ytmafibbnojdpjaa.C (behindN chain_Chain_behind.calls chain_Chain_behind.f)
open Go.Proofs.Ytmafibbnojdpjaa.Tr Go.RowKit Go.Proofs.YtmafibbnojdpjaaW.PrintWords Go.Proofs.YtmafibbnojdpjaaW.PrintLast Go.Proofs.YtmafibbnojdpjaaW.PrintMore Go.Proofs.Ytmafibbnojdpjaa.P
def upV (c : List Ver) : Prop := c.Pairwise fun a b => a.f0 < b.f0
def cutV (c : List Ver) (q : Int) : List Ver := c.filter fun v => decide (v.f0 ≤ q)
/-- what belonged to the key behind a commit -/
def atO (c : List Ver) (q : Int) : Option ByteArray := (cutV c q).getLast?.bind fun v => if v.f2 then none else some v.f1
theorem cut_split {c : List Ver} (h : upV c) (q : Int) : cutV c q = c.take (cutV c q).length ∧ ∀ v ∈ c.drop (cutV c q).length, q < v.f0 := by
  induction c with
  | nil => exact ⟨rfl, fun v hv => (by cases hv)⟩
  | cons a c ih =>
    obtain ⟨h1, h2⟩ := List.pairwise_cons.1 h
    obtain ⟨i1, i2⟩ := ih h2
    by_cases hk : a.f0 ≤ q
    · have e1 : cutV (a :: c) q = a :: cutV c q := by unfold cutV; rw [List.filter_cons_of_pos (by simpa using hk)]
      rw [e1, List.length_cons, List.take_succ_cons, List.drop_succ_cons, ← i1]
      exact ⟨rfl, i2⟩
    · have hno : ∀ b ∈ c, ¬ b.f0 ≤ q := fun b hb => by have := h1 b hb; omega
      have e1 : cutV (a :: c) q = [] := by
        unfold cutV
        rw [List.filter_eq_nil_iff]
        intro b hb
        rcases List.mem_cons.1 hb with rfl | hb
        · simpa using hk
        · simpa using hno b hb
      rw [e1]
      refine ⟨rfl, fun v hv => ?_⟩
      rcases List.mem_cons.1 hv with rfl | hv
      · omega
      · have := hno v hv; omega
theorem key_get {c : List Ver} {i : Nat} (h : i < c.length) : key c i = c[i].f0 := by simp [key, rd_T118, List.getD, h]
theorem cut_len (c : List Ver) (q : Int) : (cutV c q).length ≤ c.length := List.length_filter_le _ _
theorem behind_cut {c : List Ver} (h : upV c) (q : Int) : behindN c q = ((cutV c q).length : Int) := by
  obtain ⟨h1, h2⟩ := cut_split h q
  have hl := cut_len c q
  refine behind_eq c q (fun i j hij hj => ?_) _ hl (fun i hi => ?_) (fun i hi hil => ?_)
  · rw [key_get (by omega), key_get hj]
    exact List.pairwise_iff_getElem.1 h i j (by omega) hj hij
  · rw [key_get (by omega)]
    have hm : c[i] ∈ cutV c q := by
      rw [h1, List.mem_take_iff_getElem]
      exact ⟨i, by omega, rfl⟩
    have := (List.mem_filter.1 hm).2
    simpa using this
  · rw [key_get hil]
    refine h2 _ ?_
    rw [List.mem_drop_iff_getElem]
    exact ⟨i - (cutV c q).length, by omega, by congr 1; omega⟩
set_option maxHeartbeats 4000000 in
theorem at_any {c : List Ver} (h : upV c) (A : Option Addr) (cap : Nat) (q : Int) (w : World) (hr : Kd.C k118 w A c.length c) (hc : c.length ≤ cap) (hn : c.length < 4611686018427387904) :
    Calls Try.prog 83 #[.slice A c.length cap, .int .i64 q] w fun e w' => e = .returned (.tuple #[.string ((atO c q).getD ⟨#[]⟩), .bool (atO c q).isSome]) ∧ Below w.heap.size w w' := by
  have HBH := Aside0.mk (chain_Chain_behind.calls A cap c q ((cutV c q).length : Int) w hr hc (by unfold chain_Chain_behind.f; rw [if_pos hn, behind_cut h]))
  obtain ⟨e1, _⟩ := cut_split h q
  have hl := cut_len c q
  have HR := Aside0.mk hr
  by_cases h0 : (cutV c q).length = 0
  · have ea : atO c q = none := by unfold atO; rw [List.length_eq_zero_iff.1 h0]; rfl
    rw [h0] at HBH
    rw [ea]
    clear h0 ea hl e1 hr
    go_enter Try.func83, Try.ntmps83
    go_wp2_with (go_at_call 104; refine HBH.out.mono ?_; rintro e w1 ⟨rfl, hb⟩; have HB := Aside0.mk hb; clear hb)
    go_ret2
    exact ⟨rfl, HB.out⟩
  · obtain ⟨n, hn0⟩ : ∃ n, (cutV c q).length = n + 1 := ⟨(cutV c q).length - 1, by omega⟩
    have hnl : n < c.length := by omega
    have ea : atO c q = if (c[n]).f2 then none else some (c[n]).f1 := by
      unfold atO
      rw [e1, hn0, List.take_succ_eq_append_getElem hnl, List.getLast?_append]
      simp
    obtain ⟨ad, eA, _, f1, f2⟩ := at_T118 hr (n : Int) (by omega) (by omega)
    rw [show rd_T118 c (n : Int) = c[n] from by simp [rd_T118, List.getD, hnl], Int.toNat_natCast] at f1 f2
    rw [hn0] at HBH
    rw [ea]
    subst eA
    generalize c[n] = v at *
    have d0 : (((n + 1 : Nat) : Int) == 0) = false := beq_eq_false_iff_ne.2 (by omega)
    have e3 : IntKind.i64.wrap (((n + 1 : Nat) : Int) - 1) = (n : Int) := by rw [IntKind.wrap_i64]; omega
    have e4 : wrap64 (((n + 1 : Nat) : Int) - 1) = (n : Int) := by rw [w64 (by omega) (by omega)]; omega
    have z0 : (0 : Int) ≤ (n : Int) := by omega
    have z1 : (n : Int) < (c.length : Int) := by omega
    clear h0 ea e1 hr hl hn0
    cases hg : v.f2 with
    | true =>
      rw [hg] at f2
      go_enter Try.func83, Try.ntmps83
      go_wp2_with (go_at_call 104; refine HBH.out.mono ?_; rintro e w1 ⟨rfl, hb⟩; have f1 := up hb f1; have f2 := up hb f2; have HB := Aside0.mk hb; clear hb)
      go_ret2
      exact ⟨rfl, HB.out⟩
    | false =>
      rw [hg] at f2
      go_enter Try.func83, Try.ntmps83
      go_wp2_with (go_at_call 104; refine HBH.out.mono ?_; rintro e w1 ⟨rfl, hb⟩; have f1 := up hb f1; have f2 := up hb f2; have HB := Aside0.mk hb; clear hb)
      go_ret2
      exact ⟨rfl, HB.out⟩
end Go.Proofs.Ytmafibbnojdpjaa.St
end
section
set_option linter.unusedVariables false
set_option maxRecDepth 100000
set_option linter.unusedSimpArgs false
namespace Go.Proofs.Ytmafibbnojdpjaa.St
open Go.Proofs.Ytmafibbnojdpjaa.Tr Go.RowKit Go.Proofs.YtmafibbnojdpjaaW.PrintWords Go.Proofs.YtmafibbnojdpjaaW.PrintLast Go.Proofs.YtmafibbnojdpjaaW.PrintMore Go.Proofs.Ytmafibbnojdpjaa.P
def hc1 : Cm := ⟨1, 0, [⟨⟨#[97]⟩, ⟨#[]⟩, false⟩]⟩
def hc2 : Cm := ⟨2, 0, [⟨⟨#[98]⟩, ⟨#[]⟩, false⟩]⟩
def hM0 : StM := newM 0 []
theorem hL0 : hM0.hist.length ≤ 1000000 ∧ hM0.K.length ≤ 1000000 := by decide +kernel
end Go.Proofs.Ytmafibbnojdpjaa.St
end
