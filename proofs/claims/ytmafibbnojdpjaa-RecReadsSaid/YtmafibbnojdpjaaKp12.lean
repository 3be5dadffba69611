/- Lemmas that the proof needs, part 12. -/
import Derived.Test.YtmafibbnojdpjaaKp1
import Derived.Test.YtmafibbnojdpjaaKp7
import Derived.Test.YtmafibbnojdpjaaKp8
section
set_option linter.unusedVariables false
set_option linter.unusedSimpArgs false
namespace Go.Proofs.Ytmafibbnojdpjaa.RecEv
open Go.RowKit Go.Proofs.Ytmafibbnojdpjaa.P Go.Proofs.YtmafibbnojdpjaaW.PrintWords Go.Proofs.YtmafibbnojdpjaaW.PrintLast Go.Proofs.YtmafibbnojdpjaaW.PrintMore
open Go.Proofs.Ytmafibbnojdpjaa.RecP
open Go.Proofs.Ytmafibbnojdpjaa.FrEv (ev_pos ev_neg ev_bind ev_some w64 B B_of B_size B_toList B_append B_extract B_upto B_from B_bt)
/-- bytes as the program's numbers -/
def I (l : List UInt8) : List Int := l.map fun b => (b.toNat : Int)
theorem I_append (a b : List UInt8) : I (a ++ b) = I a ++ I b := by simp [I]
theorem I_length (l : List UInt8) : (I l).length = l.length := by simp [I]
theorem I_bytesOf (l : List UInt8) : bytesOf (B l) = I l := rfl
theorem I_str (l : List UInt8) : strOfNums (I l) = B l := by
  unfold strOfNums I B
  rw [List.map_map]
  congr 2
  exact (List.map_congr_left (fun b _ => by simp)).trans (List.map_id l)
theorem I_one (n : Nat) (h : n < 256) : I [UInt8.ofNat n] = [(n : Int)] := by simp [I, Nat.mod_eq_of_lt h]
theorem wrap_u64 (x : Int) : IntKind.u64.wrap x = x % 18446744073709551616 := by simp [IntKind.wrap, IntKind.bits, IntKind.signed]
theorem num_l1 (l : List UInt8) (n : Nat) (hl : l.length < 140737488355000) (hn : n < 18446744073709551616) : ∀ (d j : Nat), j + d = (be n).length →
    Ev (fun k => octet_Num.l1 k (I (l ++ UInt8.ofNat (be n).length :: (be n).take j)) (n : Int) ((be n).length : Int) ((be n).length : Int) (j : Int)) (I (l ++ numE n))
  | 0, j, h => by
    rw [List.take_of_length_le (by omega)]
    refine Ev.step (fun k => by simp only [octet_Num.l1]; rfl) ?_
    exact ev_neg (by omega) (Ev.now _)
  | d + 1, j, h => by
    have h8 := be_length8 n hn
    have ih := num_l1 l n hl hn d (j + 1) (by omega)
    have hj : j < (be n).length := by omega
    refine Ev.step (fun k => by simp only [octet_Num.l1]; rfl) ?_
    have e0 : wrap64 (8 * wrap64 (wrap64 (((be n).length : Int) - 1) - (j : Int))) = ((8 * ((be n).length - 1 - j) : Nat) : Int) := by
      rw [w64 (x := ((be n).length : Int) - 1) (by omega) (by omega), w64 (x := ((be n).length : Int) - 1 - (j : Int)) (by omega) (by omega), w64 (by omega) (by omega)]
      omega
    rw [e0, show wrap64 ((j : Int) + 1) = ((j + 1 : Nat) : Int) from by rw [w64 (by omega) (by omega)]; rfl]
    clear e0
    refine ev_pos (by omega) (ev_pos (by omega) (ev_pos (by rw [I_length]; simp; omega) ?_))
    have hs : shr .u64 (n : Int) ((8 * ((be n).length - 1 - j) : Nat) : Int) % 256 = ((n / 256 ^ ((be n).length - 1 - j) % 256 : Nat) : Int) := by
      unfold shr
      rw [show min ((8 * ((be n).length - 1 - j) : Nat) : Int).toNat (IntKind.bits .u64) = 8 * ((be n).length - 1 - j) from by
        rw [show IntKind.bits .u64 = 64 from rfl]; omega]
      rw [Int.pow_mul, show (2 : Int) ^ 8 = ((256 : Nat) : Int) from rfl]
      rw [← Int.natCast_pow, ← Int.natCast_ediv]
      rfl
    have hg := be_get n j hj
    have et : (be n).take (j + 1) = (be n).take j ++ [UInt8.ofNat (n / 256 ^ ((be n).length - 1 - j) % 256)] := by
      rw [List.take_succ_eq_append_getElem hj]
      rw [List.getElem?_eq_getElem hj] at hg
      rw [Option.some.inj hg]
    rw [et] at ih
    rw [hs, ← I_one _ (Nat.mod_lt _ (by decide)), ← I_append]
    simpa using ih
theorem num_l0 (l : List UInt8) (n : Nat) (hl : l.length < 140737488355000) (hn : n < 18446744073709551616) : ∀ (d s : Nat), s + d = (be n).length →
    Ev (fun k => octet_Num.l0 k (I l) (n : Int) (s : Int) ((n / 256 ^ s : Nat) : Int)) (I (l ++ numE n))
  | 0, s, h => by
    have h8 := be_length8 n hn
    have h0 := (be_div n (be n).length rfl s).2 (by omega)
    refine Ev.step (fun k => by simp only [octet_Num.l0]; rfl) ?_
    rw [h0]
    refine ev_neg (by omega) (ev_pos (by rw [I_length]; omega) ?_)
    have := num_l1 l n hl hn (be n).length 0 (by omega)
    rw [List.take_zero, I_append] at this
    rw [show (s : Int) % 256 = (((be n).length : Nat) : Int) from by omega, ← I_one _ (show (be n).length < 256 by omega), show (s : Int) = ((be n).length : Int) from by omega]
    exact this
  | d + 1, s, h => by
    have h8 := be_length8 n hn
    have ih := num_l0 l n hl hn d (s + 1) (by omega)
    have h0 : n / 256 ^ s ≠ 0 := fun e => by
      have := (be_div n (be n).length rfl s).1 e
      omega
    refine Ev.step (fun k => by simp only [octet_Num.l0]; rfl) ?_
    rw [show wrap64 ((s : Int) + 1) = ((s + 1 : Nat) : Int) from by rw [w64 (by omega) (by omega)]; rfl]
    refine ev_pos (Int.natCast_pos.2 (Nat.pos_of_ne_zero h0)) ?_
    rw [show ((n / 256 ^ s : Nat) : Int) / 256 = ((n / 256 ^ (s + 1) : Nat) : Int) from by rw [Nat.pow_succ, ← Nat.div_div_eq_div_mul]; rfl]
    exact ih
theorem num_ev (l : List UInt8) (n : Nat) (hl : l.length < 140737488355000) (hn : n < 9223372036854775808) : Ev (fun k => octet_Num.f k (I l) (n : Int)) (I (l ++ numE n)) := by
  have := num_l0 l n hl (by omega) (be n).length 0 (by omega)
  simp only [Nat.pow_zero, Nat.div_one] at this
  refine Ev.congr (fun k => ?_) this
  unfold octet_Num.f
  have e : IntKind.u64.wrap (mx (n : Int) 0) = (n : Int) := by
    rw [wrap_u64]
    unfold mx
    split <;> omega
  rw [e]
  rfl
theorem numE_length (n : Nat) (hn : n < 9223372036854775808) : (numE n).length ≤ 9 := by
  have := be_length8 n (by omega)
  simp [numE]
  omega
theorem text_ev (l s : List UInt8) (hl : l.length + s.length < 140737488354900) : Ev (fun k => octet_Text.f k (I l) (B s)) (I (l ++ textE s)) := by
  unfold octet_Text.f
  rw [B_size]
  refine ev_bind (num_ev l s.length (by omega) (by omega)) (ev_pos ?_ ?_)
  · rw [I_length, List.length_append]
    have := numE_length s.length (by omega)
    omega
  · rw [I_bytesOf, ← I_append, List.append_assoc]
    exact Ev.now _
theorem textE_length (s : List UInt8) (h : s.length < 9223372036854775808) : (textE s).length ≤ s.length + 9 := by
  have := numE_length s.length h
  simp only [textE, List.length_append]
  omega
theorem flag_eq (l : List UInt8) (b : Bool) (hl : l.length < 140737488355328) : octet_Flag.f (I l) b = some (I (l ++ flagE b)) := by
  unfold octet_Flag.f
  cases b <;> simp [I_length, hl, flagE, I_append] <;> rfl
def toS (w : Wr) : S31 := ⟨B w.key, B w.val, w.gone⟩
theorem toS_of (x : S31) : x = toS ⟨x.f0.data.toList, x.f1.data.toList, x.f2⟩ := by
  cases x
  unfold toS
  rw [← B_of, ← B_of]
theorem rd_toS (ws : List Wr) (i : Nat) (h : i < ws.length) : rd_T31 (ws.map toS) (i : Int) = toS ws[i] := by
  unfold rd_T31
  simp [List.getD, List.getElem?_eq_getElem h]
/-- how many bytes writes have, at most -/
def bulk (ws : List Wr) : Nat := (ws.map fun w => w.key.length + w.val.length + 20).sum
theorem bulk_cons (w : Wr) (ws : List Wr) : bulk (w :: ws) = w.key.length + w.val.length + 20 + bulk ws := by simp [bulk]
theorem bulk_append (a b : List Wr) : bulk (a ++ b) = bulk a + bulk b := by simp [bulk]
theorem writeE_length (w : Wr) (h1 : w.key.length < 9223372036854775808) (h2 : w.val.length < 9223372036854775808) : (writeE w).length ≤ w.key.length + w.val.length + 20 := by
  have a := textE_length w.key h1
  have b := textE_length w.val h2
  simp only [writeE, List.length_append, flagE, List.length_cons, List.length_nil]
  omega
theorem bulk_le (ws : List Wr) (h : ∀ w ∈ ws, w.key.length < 9223372036854775808 ∧ w.val.length < 9223372036854775808) : (ws.flatMap writeE).length ≤ bulk ws := by
  induction ws with
  | nil => simp [bulk]
  | cons w ws ih =>
    have := writeE_length w (h w List.mem_cons_self).1 (h w List.mem_cons_self).2
    have := ih (fun x hx => h x (List.mem_cons_of_mem _ hx))
    rw [bulk_cons, List.flatMap_cons, List.length_append]
    omega
theorem bulk_take (ws : List Wr) (i : Nat) (h : i < ws.length) : bulk (ws.take i) + (ws[i].key.length + ws[i].val.length + 20) ≤ bulk ws := by
  have e : ws = ws.take i ++ ws[i] :: ws.drop (i + 1) := by rw [← List.drop_eq_getElem_cons h, List.take_append_drop]
  have := congrArg bulk e
  rw [bulk_append, bulk_cons] at this
  omega
theorem bulk_len (ws : List Wr) : ws.length ≤ bulk ws := by
  induction ws with
  | nil => simp
  | cons w ws ih => rw [bulk_cons, List.length_cons]; omega
theorem writes_l0 (l : List UInt8) (ws : List Wr) (hb : l.length + bulk ws < 140737488354000) : ∀ (d i : Nat), i + d = ws.length →
    Ev (fun k => rec_writes.l0 k (I (l ++ (ws.take i).flatMap writeE)) (ws.map toS) ((ws.map toS).length : Int) (i : Int)) (I (l ++ ws.flatMap writeE))
  | 0, i, h => by
    rw [List.take_of_length_le (by omega)]
    refine Ev.step (fun k => by simp only [rec_writes.l0]; rfl) ?_
    exact ev_neg (by simp; omega) (Ev.now _)
  | d + 1, i, h => by
    have hi : i < ws.length := by omega
    have hbt := bulk_take ws i hi
    have hbn := bulk_len ws
    have sm : ∀ w ∈ ws, w.key.length < 9223372036854775808 ∧ w.val.length < 9223372036854775808 := by
      intro w hw
      obtain ⟨j, hj, rfl⟩ := List.getElem_of_mem hw
      have := bulk_take ws j hj
      omega
    have hbl := bulk_le (ws.take i) (fun w hw => sm w (List.mem_of_mem_take hw))
    have ih := writes_l0 l ws hb d (i + 1) (by omega)
    have ht := textE_length ws[i].key (by omega)
    refine Ev.step (fun k => by simp only [rec_writes.l0]; rfl) ?_
    rw [show wrap64 ((i : Int) + 1) = ((i + 1 : Nat) : Int) from by rw [w64 (by omega) (by omega)]; rfl, rd_toS ws i hi]
    have hil : (i : Int) < ((ws.map toS).length : Int) := by simp; omega
    refine ev_pos hil (ev_pos (by omega) (ev_pos hil ?_))
    refine ev_bind (text_ev _ ws[i].key (by rw [List.length_append]; omega)) ?_
    rw [show (toS ws[i]).f2 = ws[i].gone from rfl, flag_eq _ _ (by simp only [List.length_append]; omega)]
    refine ev_some (ev_bind (text_ev _ ws[i].val (by simp only [List.length_append, flagE, List.length_cons, List.length_nil]; omega)) ?_)
    rw [List.take_succ_eq_append_getElem hi, List.flatMap_append] at ih
    simp only [List.flatMap_cons, List.flatMap_nil, List.append_nil, writeE, ← List.append_assoc] at ih ⊢
    exact ih
theorem writes_ev (l : List UInt8) (ws : List Wr) (hb : l.length + bulk ws < 140737488353900) (hn : ws.length < 9223372036854775808) : Ev (fun k => rec_writes.f k (I l) (ws.map toS)) (I (l ++ writesE ws)) := by
  unfold rec_writes.f
  rw [show ((ws.map toS).length : Int) = (ws.length : Int) from by simp]
  refine ev_bind (num_ev l ws.length (by omega) (by omega)) ?_
  have := numE_length ws.length hn
  have h := writes_l0 (l ++ numE ws.length) ws (by rw [List.length_append]; omega) ws.length 0 (by omega)
  rw [show ((ws.map toS).length : Int) = (ws.length : Int) from by simp] at h
  simp only [List.take_zero, List.flatMap_nil, List.append_nil] at h
  rw [show l ++ writesE ws = l ++ numE ws.length ++ ws.flatMap writeE from by simp [writesE]]
  exact h
theorem commit_ev (l : List UInt8) (q t : Nat) (ws : List Wr) (hb : l.length + bulk ws < 140737488353800) (hn : ws.length < 9223372036854775808) (hq : q < 9223372036854775808) (ht : t < 9223372036854775808) :
    Ev (fun k => rec_commit.f k (I l) (q : Int) (t : Int) (ws.map toS)) (I (l ++ commitE q t ws)) := by
  unfold rec_commit.f
  have e1 := numE_length q hq
  have e2 := numE_length t ht
  refine ev_bind (num_ev l q (by omega) hq) (ev_bind (num_ev _ t (by rw [List.length_append]; omega) ht) (ev_bind (writes_ev _ ws (by simp only [List.length_append]; omega) hn) ?_))
  simp only [commitE, ← List.append_assoc]
  exact Ev.now _
def prevOf (ws : List Wr) (i : Nat) : Option (List UInt8) := if h : 0 < i ∧ i ≤ ws.length then some (ws[i - 1]'(by omega)).key else none
def risesP (ws : List Wr) : Bool := risesFrom Op.bytesLess none ws
theorem rises_l0 (ws : List Wr) (hn : ws.length < 4611686018427387904) : ∀ (d i : Nat), i + d = ws.length →
    Ev (fun k => store_rises.l0 k (ws.map toS) (ws.map toS) ((ws.map toS).length : Int) (i : Int)) (risesFrom Op.bytesLess (prevOf ws i) (ws.drop i))
  | 0, i, h => by
    rw [List.drop_of_length_le (by omega)]
    refine Ev.step (fun k => by simp only [store_rises.l0]; rfl) ?_
    exact ev_neg (by simp; omega) (Ev.now _)
  | d + 1, i, h => by
    have hi : i < ws.length := by omega
    have ih := rises_l0 ws hn d (i + 1) (by omega)
    have hp : prevOf ws (i + 1) = some ws[i].key := by unfold prevOf; rw [dif_pos (by omega)]; rfl
    rw [hp] at ih
    refine Ev.step (fun k => by simp only [store_rises.l0]; rfl) ?_
    rw [show wrap64 ((i : Int) + 1) = ((i + 1 : Nat) : Int) from by rw [w64 (by omega) (by omega)]; rfl, rd_toS ws i hi, List.drop_eq_getElem_cons hi]
    simp only [risesFrom, toS, B_toList, B_size]
    have hil : (i : Int) < ((ws.map toS).length : Int) := by simp; omega
    refine ev_pos hil (ev_pos (by omega) (ev_pos hil ?_))
    have tail : Ev (fun k => if (i : Int) > 0 then (if 0 ≤ wrap64 ((i : Int) - 1) then (if wrap64 ((i : Int) - 1) < ((ws.map toS).length : Int) then (if ((Op.bytesLess ((rd_T31 (ws.map toS) (wrap64 ((i : Int) - 1))).f0).toList ws[i].key) = true) then (store_rises.l0 k (ws.map toS) (ws.map toS) ((ws.map toS).length : Int) ((i + 1 : Nat) : Int)) else (some false)) else (none)) else (none)) else (store_rises.l0 k (ws.map toS) (ws.map toS) ((ws.map toS).length : Int) ((i + 1 : Nat) : Int)))
        (prevOk Op.bytesLess (prevOf ws i) ws[i].key && risesFrom Op.bytesLess (some ws[i].key) (ws.drop (i + 1))) := by
      by_cases c : 0 < i
      · have hp2 : prevOf ws i = some (ws[i - 1]).key := by unfold prevOf; rw [dif_pos (by omega)]
        rw [hp2, show wrap64 ((i : Int) - 1) = ((i - 1 : Nat) : Int) from by rw [w64 (by omega) (by omega)]; omega, rd_toS ws (i - 1) (by omega)]
        refine ev_pos (by omega) (ev_pos (by omega) (ev_pos (by simp; omega) ?_))
        simp only [toS, B_toList, prevOk]
        cases e : Op.bytesLess (ws[i - 1]).key ws[i].key with
        | true => exact ev_pos rfl (by simpa using ih)
        | false => exact ev_neg (by simp) (Ev.now _)
      · have hp2 : prevOf ws i = none := by unfold prevOf; rw [dif_neg (by omega)]
        rw [hp2]
        simp only [prevOk]
        exact ev_neg (by omega) (by simpa using ih)
    by_cases c1 : ws[i].key = []
    · refine ev_pos c1 ?_
      rw [c1]
      exact Ev.now _
    refine ev_neg c1 ?_
    have b1 : ws[i].key.isEmpty = false := by cases h : ws[i].key with | nil => exact absurd h c1 | cons a b => rfl
    by_cases c2 : ws[i].key.length > 400
    · refine ev_pos (by omega) ?_
      rw [b1, decide_eq_false (by omega : ¬ ws[i].key.length ≤ 400)]
      exact Ev.now _
    refine ev_neg (by omega) ?_
    by_cases c3 : ws[i].val.length > 4096
    · refine ev_pos (by omega) ?_
      rw [b1, decide_eq_true (by omega : ws[i].key.length ≤ 400), decide_eq_false (by omega : ¬ ws[i].val.length ≤ 4096)]
      exact Ev.now _
    refine ev_neg (by omega) ?_
    rw [b1, decide_eq_true (by omega : ws[i].key.length ≤ 400), decide_eq_true (by omega : ws[i].val.length ≤ 4096)]
    cases c4 : ws[i].gone with
    | false =>
      refine ev_neg (by simp) ?_
      simpa using tail
    | true =>
      refine ev_pos rfl ?_
      by_cases c5 : ws[i].val = []
      · refine ev_pos c5 ?_
        rw [c5]
        simpa using tail
      · refine ev_neg c5 ?_
        have b5 : ws[i].val.isEmpty = false := by cases h : ws[i].val with | nil => exact absurd h c5 | cons a b => rfl
        rw [b5]
        exact Ev.now _
theorem rises_ev (ws : List Wr) (hn : ws.length < 4611686018427387904) : Ev (fun k => store_rises.f k (ws.map toS)) (risesP ws) := by
  have := rises_l0 ws hn ws.length 0 (by omega)
  rw [List.drop_zero, show prevOf ws 0 = none from by unfold prevOf; rw [dif_neg (by omega)]] at this
  exact this
def rightW (ws : List Wr) : Bool := decide (ws.length ≤ 200) && risesP ws
theorem right_ev (ws : List Wr) (hn : ws.length < 4611686018427387904) : Ev (fun k => store_Right.f k (ws.map toS)) (rightW ws) := by
  unfold store_Right.f rightW
  by_cases c : ws.length ≤ 200
  · rw [decide_eq_true c]
    refine ev_pos (by simp; omega) (ev_bind (rises_ev ws hn) ?_)
    simp only [Bool.true_and]
    exact Ev.now _
  · rw [decide_eq_false c]
    exact ev_neg (by simp; omega) (Ev.now _)
def rightC (q t : Int) (ws : List Wr) : Bool := decide (1 ≤ q) && decide (q ≤ 1099511627776) && decide (0 ≤ t) && decide (t ≤ 1099511627776) && rightW ws
theorem rightC_ev (q t : Int) (ws : List Wr) (hn : ws.length < 4611686018427387904) : Ev (fun k => rec_right.f k q t (ws.map toS)) (rightC q t ws) := by
  unfold rec_right.f rightC
  by_cases c1 : 1 ≤ q
  · rw [decide_eq_true c1]
    refine ev_pos (by omega) ?_
    by_cases c2 : q ≤ 1099511627776
    · rw [decide_eq_true c2]
      refine ev_pos (by omega) ?_
      by_cases c3 : 0 ≤ t
      · rw [decide_eq_true c3]
        refine ev_pos (by omega) ?_
        by_cases c4 : t ≤ 1099511627776
        · rw [decide_eq_true c4]
          refine ev_pos (by omega) (ev_bind (right_ev ws hn) ?_)
          simp only [Bool.true_and]
          exact Ev.now _
        · rw [decide_eq_false c4]; exact ev_neg (by omega) (Ev.now _)
      · rw [decide_eq_false c3]; exact ev_neg (by omega) (Ev.now _)
    · rw [decide_eq_false c2]; exact ev_neg (by omega) (Ev.now _)
  · rw [decide_eq_false c1]; exact ev_neg (by omega) (Ev.now _)
end Go.Proofs.Ytmafibbnojdpjaa.RecEv
end
