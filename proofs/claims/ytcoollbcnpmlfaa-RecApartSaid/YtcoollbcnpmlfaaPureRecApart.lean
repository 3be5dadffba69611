/- RecApart: unlike commits have unlike bytes, and none is the beginning of the other. Proved for every input; no condition. This text: the plain half. -/
import Derived.Test.YtcoollbcnpmlfaaRx5
import Derived.Test.YtcoollbcnpmlfaaRecEv
set_option linter.unusedVariables false
set_option linter.unusedSimpArgs false
namespace Go.Proofs.Ytcoollbcnpmlfaa.Pure
open Go.RowKit Go.Proofs.Ytcoollbcnpmlfaa.R Go.Proofs.YtcoollbcnpmlfaaW.PrintWords Go.Proofs.YtcoollbcnpmlfaaW.PrintLast Go.Proofs.YtcoollbcnpmlfaaW.PrintMore
open Go.Proofs.Ytcoollbcnpmlfaa.RecP Go.Proofs.Ytcoollbcnpmlfaa.RecEv
open Go.Proofs.Ytcoollbcnpmlfaa.FrEv (ev_pos ev_neg ev_bind ev_some w64 B B_of B_size B_toList B_append B_extract B_upto B_from B_bt)

/-- what rec.Commit answers -/
def commitA (q t : Int) (ws : List Wr) : ByteArray × Int := if rightC q t ws then (B (commitE q.toNat t.toNat ws), 0) else (B [], 1)
theorem rises_small (lt : List UInt8 → List UInt8 → Bool) : ∀ (ws : List Wr) (p : Option (List UInt8)), risesFrom lt p ws = true → ∀ w ∈ ws, w.key.length ≤ 400 ∧ w.val.length ≤ 4096
  | [], _, _, w, hw => by simp at hw
  | x :: ws, p, h, w, hw => by
    simp only [risesFrom, Bool.and_eq_true, decide_eq_true_eq] at h
    rcases List.mem_cons.1 hw with rfl | hw
    · exact ⟨h.1.1.1.1.2, h.1.1.1.2⟩
    · exact rises_small lt ws _ h.2 w hw
theorem bulk_small (ws : List Wr) (h : ∀ w ∈ ws, w.key.length ≤ 400 ∧ w.val.length ≤ 4096) : bulk ws ≤ 5000 * ws.length := by
  induction ws with
  | nil => simp [bulk]
  | cons w ws ih =>
    have := h w List.mem_cons_self
    have := ih (fun x hx => h x (List.mem_cons_of_mem _ hx))
    rw [bulk_cons, List.length_cons]
    omega
theorem right_facts (q t : Int) (ws : List Wr) (h : rightC q t ws = true) : 1 ≤ q ∧ q ≤ 1099511627776 ∧ 0 ≤ t ∧ t ≤ 1099511627776 ∧ ws.length ≤ 200 ∧ (∀ w ∈ ws, w.key.length ≤ 400 ∧ w.val.length ≤ 4096) ∧ bulk ws ≤ 5000 * ws.length := by
  simp only [rightC, rightW, Bool.and_eq_true, decide_eq_true_eq] at h
  have hs := rises_small _ ws none h.2.2
  exact ⟨h.1.1.1.1, h.1.1.1.2, h.1.1.2, h.1.2, h.2.1, hs, bulk_small ws hs⟩
theorem commitA_ev (q t : Int) (ws : List Wr) (hn : ws.length < 4611686018427387904) : Ev (fun k => rec_Commit.f k q t (ws.map toS)) (commitA q t ws) := by
  unfold rec_Commit.f commitA
  refine ev_bind (rightC_ev q t ws hn) ?_
  cases h : rightC q t ws with
  | false => exact ev_neg (by simp) (Ev.now _)
  | true =>
    obtain ⟨h1, h2, h3, h4, h5, _, h7⟩ := right_facts q t ws h
    obtain ⟨q, rfl⟩ := Int.eq_ofNat_of_zero_le (show 0 ≤ q by omega)
    obtain ⟨t, rfl⟩ := Int.eq_ofNat_of_zero_le h3
    refine ev_pos rfl ?_
    have := commit_ev [] q t ws (by simp; omega) (by omega) (by omega) (by omega)
    refine ev_bind this ?_
    rw [List.nil_append, I_str]
    exact Ev.now _
def sameC (q t : Int) (a : List Wr) (q' t' : Int) (b : List Wr) : Prop := q = q' ∧ t = t' ∧ a = b
theorem B_inj {a b : List UInt8} (h : B a = B b) : a = b := by
  have := congrArg ByteArray.toList h
  rwa [B_toList, B_toList] at this
theorem same_l0 (q t q' t' : Int) (a b : List Wr) (hl : a.length = b.length) (hn : a.length < 4611686018427387904) : ∀ (d i : Nat), i + d = a.length → a.take i = b.take i →
    ∃ r : Bool, (r = true ↔ a = b) ∧ Ev (fun k => mailbaglaw11_Same.l0 k ((a.map toS).length : Int) (i : Int) q t (a.map toS) q' t' (b.map toS)) r
  | 0, i, h, he => by
    refine ⟨true, ?_, Ev.step (f := fun _ => some true) (fun k => by simp only [mailbaglaw11_Same.l0]; rw [if_neg (by simp; omega)]) (Ev.now _)⟩
    rw [List.take_of_length_le (by omega), List.take_of_length_le (by omega)] at he
    simp [he]
  | d + 1, i, h, he => by
    have hi : i < a.length := by omega
    have hi' : i < b.length := by omega
    have hil : (i : Int) < ((a.map toS).length : Int) := by simp; omega
    have hil' : (i : Int) < ((b.map toS).length : Int) := by simp; omega
    by_cases c : a[i] = b[i]
    · obtain ⟨r, hr, hE⟩ := same_l0 q t q' t' a b hl hn d (i + 1) (by omega) (by rw [List.take_succ_eq_append_getElem hi, List.take_succ_eq_append_getElem hi', he, c])
      refine ⟨r, hr, Ev.step (fun k => by simp only [mailbaglaw11_Same.l0]; rfl) ?_⟩
      rw [show wrap64 ((i : Int) + 1) = ((i + 1 : Nat) : Int) from by rw [w64 (by omega) (by omega)]; rfl, rd_toS a i hi, rd_toS b i hi']
      refine ev_pos hil (ev_pos (by omega) (ev_pos hil (ev_pos hil' (ev_neg ?_ hE))))
      rw [c]
      simp
    · refine ⟨false, ?_, Ev.step (fun k => by simp only [mailbaglaw11_Same.l0]; rfl) ?_⟩
      · simp only [Bool.false_eq_true, false_iff]
        intro e
        subst e
        exact c rfl
      · rw [rd_toS a i hi, rd_toS b i hi']
        refine ev_pos hil (ev_pos (by omega) (ev_pos hil (ev_pos hil' (ev_pos ?_ (Ev.now _)))))
        simp only [toS, B_toList]
        by_cases k1 : a[i].key = b[i].key
        · by_cases k2 : a[i].val = b[i].val
          · by_cases k3 : a[i].gone = b[i].gone
            · exfalso
              apply c
              rcases ha : a[i] with ⟨x, y, z⟩
              rcases hb : b[i] with ⟨x', y', z'⟩
              rw [ha, hb] at k1 k2 k3
              simp only at k1 k2 k3
              rw [k1, k2, k3]
            · simp [k1, k2, k3]
          · simp [k1, k2]
        · simp [k1]
theorem same_ev (q t q' t' : Int) (a b : List Wr) (hn : a.length < 4611686018427387904) (hnb : b.length < 4611686018427387904) :
    ∃ r : Bool, (r = true ↔ (q = q' ∧ t = t' ∧ a = b)) ∧ Ev (fun k => mailbaglaw11_Same.f k q t (a.map toS) q' t' (b.map toS)) r := by
  unfold mailbaglaw11_Same.f
  have no : Ev (fun k => mailbaglaw11_Same.j0 k true q t (a.map toS) q' t' (b.map toS)) false := Ev.step (f := fun _ => some false) (fun k => by simp only [mailbaglaw11_Same.j0]; rfl) (Ev.now _)
  by_cases c1 : q = q'
  · by_cases c2 : t = t'
    · by_cases c3 : a.length = b.length
      · obtain ⟨r, hr, hE⟩ := same_l0 q t q' t' a b c3 hn a.length 0 (by omega) rfl
        refine ⟨r, by rw [hr]; exact ⟨fun e => ⟨c1, c2, e⟩, fun e => e.2.2⟩, ev_pos c1 (ev_pos c2 ?_)⟩
        refine Ev.step (fun k => by simp only [mailbaglaw11_Same.j0]; rfl) (ev_neg (by simp [c3]) ?_)
        exact hE
      · refine ⟨false, by simp only [Bool.false_eq_true, false_iff]; intro e; exact c3 (congrArg List.length e.2.2), ev_pos c1 (ev_pos c2 ?_)⟩
        rw [show (((a.map toS).length : Int) != ((b.map toS).length : Int)) = true from by simp; omega]
        exact no
    · exact ⟨false, by simp only [Bool.false_eq_true, false_iff]; intro e; exact c2 e.2.1, ev_pos c1 (ev_neg c2 no)⟩
  · exact ⟨false, by simp only [Bool.false_eq_true, false_iff]; intro e; exact c1 e.1, ev_neg c1 no⟩
theorem head11_ev : Ev (fun k => mailbaglaw11_head.f k) true := by
  unfold mailbaglaw11_head.f
  have e : ([(⟨(⟨#[97]⟩ : ByteArray), (⟨#[120]⟩ : ByteArray), false⟩ : S62)] : List S62) = ([⟨[97], [120], false⟩] : List Wr).map toS := rfl
  rw [e]
  refine ev_bind (commitA_ev 1 0 _ (by decide)) ?_
  have hr : rightC 1 0 [⟨[97], [120], false⟩] = true := by decide +kernel
  unfold commitA
  rw [if_pos hr]
  refine ev_pos rfl ?_
  simp only [B_toList]
  have hb1 : be 1 = [1] := by rw [be_pos 1 (by decide), show 1 / 256 = 0 from rfl, be_zero]; rfl
  have : commitE (1 : Int).toNat (0 : Int).toNat [⟨[97], [120], false⟩] = [1, 1, 0, 1, 1, 1, 1, 97, 0, 1, 1, 120] := by
    simp [commitE, writesE, writeE, textE, numE, flagE, hb1, be_zero]
  rw [this]
  exact Ev.now _
theorem apart (q t q' t' : Int) (a b : List Wr) (ha : a.length ≤ 40) (hb : b.length ≤ 40) :
    Ev (fun k => mailbaglaw11_RecApart.j0 k false q t (a.map toS) q' t' (b.map toS)) true := by
  refine Ev.step (fun k => by simp only [mailbaglaw11_RecApart.j0]; rfl) (ev_neg (by simp) ?_)
  refine ev_bind (commitA_ev q t a (by omega)) (ev_bind (commitA_ev q' t' b (by omega)) ?_)
  have yes : ∀ (x y : ByteArray), Ev (fun k => mailbaglaw11_RecApart.j1 k x y true q t (a.map toS) q' t' (b.map toS)) true := fun x y =>
    Ev.step (f := fun _ => some true) (fun k => by simp only [mailbaglaw11_RecApart.j1]; rfl) (Ev.now _)
  cases h1 : rightC q t a with
  | false =>
    unfold commitA
    rw [h1]
    exact ev_neg (by simp) (yes _ _)
  | true =>
    cases h2 : rightC q' t' b with
    | false =>
      unfold commitA
      rw [h1, h2]
      exact ev_pos rfl (yes _ _)
    | true =>
      obtain ⟨a1, a2, a3, a4, a5, a6, a7⟩ := right_facts q t a h1
      obtain ⟨b1, b2, b3, b4, b5, b6, b7⟩ := right_facts q' t' b h2
      obtain ⟨q, rfl⟩ := Int.eq_ofNat_of_zero_le (show 0 ≤ q by omega)
      obtain ⟨t, rfl⟩ := Int.eq_ofNat_of_zero_le a3
      obtain ⟨q', rfl⟩ := Int.eq_ofNat_of_zero_le (show 0 ≤ q' by omega)
      obtain ⟨t', rfl⟩ := Int.eq_ofNat_of_zero_le b3
      have e1 : commitA (q : Int) (t : Int) a = (B (commitE q t a), 0) := by unfold commitA; rw [h1]; rfl
      have e2 : commitA (q' : Int) (t' : Int) b = (B (commitE q' t' b), 0) := by unfold commitA; rw [h2]; rfl
      rw [e1, e2]
      refine ev_pos rfl (Ev.step (fun k => by simp only [mailbaglaw11_RecApart.j1]; rfl) (ev_neg (by simp) ?_))
      obtain ⟨r, hr, hE⟩ := same_ev (q : Int) t q' t' a b (by omega) (by omega)
      simp only [B_toList]
      have inj : ∀ r s, commitE q t a ++ r = commitE q' t' b ++ s → q = q' ∧ t = t' ∧ a = b ∧ r = s := fun r s h =>
        commitE_inj q t q' t' a b (by omega) (by omega) (by omega) (by omega) (by omega) (by omega) (fun w hw => by have := a6 w hw; exact ⟨by omega, by omega⟩) (fun w hw => by have := b6 w hw; exact ⟨by omega, by omega⟩) r s h
      have k1 : (commitE q t a == commitE q' t' b) = r := by
        rw [Bool.eq_iff_iff, hr, beq_iff_eq]
        constructor
        · intro h
          obtain ⟨x, y, z, _⟩ := inj [] [] (by simpa using h)
          exact ⟨by omega, by omega, z⟩
        · rintro ⟨x, y, z⟩
          rw [show q = q' from by omega, show t = t' from by omega, z]
      refine ev_bind hE (ev_pos (by rw [k1]; simp) ?_)
      rw [B_size, B_size]
      obtain ⟨m, hm⟩ : ∃ m : Nat, mn ((commitE q t a).length : Int) ((commitE q' t' b).length : Int) = (m : Int) ∧ m ≤ (commitE q t a).length ∧ m ≤ (commitE q' t' b).length ∧ (m = (commitE q t a).length ∨ m = (commitE q' t' b).length) := by
        unfold mn
        split
        · exact ⟨_, rfl, by omega, by omega, .inr rfl⟩
        · exact ⟨_, rfl, by omega, by omega, .inl rfl⟩
      rw [hm.1]
      refine ev_pos (by omega) (ev_pos (by omega) (ev_pos (by omega) (ev_bind hE ?_)))
      rw [show ((m : Int)).toNat = m from rfl, B_upto, B_upto, B_toList, B_toList]
      have k2 : ((commitE q t a).take m == (commitE q' t' b).take m) = r := by
        rw [Bool.eq_iff_iff, hr, beq_iff_eq]
        constructor
        · intro h
          rcases hm.2.2.2 with e | e
          · rw [e, List.take_length] at h
            obtain ⟨x, y, z, _⟩ := inj ((commitE q' t' b).drop m) [] (by rw [h, List.append_nil, ← e, List.take_append_drop])
            exact ⟨by omega, by omega, z⟩
          · rw [e, List.take_length] at h
            obtain ⟨x, y, z, _⟩ := inj [] ((commitE q t a).drop m) (by rw [← h, List.append_nil, ← e, List.take_append_drop])
            exact ⟨by omega, by omega, z⟩
        · rintro ⟨x, y, z⟩
          rw [show q = q' from by omega, show t = t' from by omega, z]
      rw [k2]
      simp only [BEq.rfl]
      exact Ev.now _
theorem RecApart (q t : Int) (x : List S62) (q' t' : Int) (y : List S62) : ∃ k, mailbaglaw11_RecApart.f k q t x q' t' y = some true := by
  obtain ⟨a, rfl⟩ := list_toS x
  obtain ⟨b, rfl⟩ := list_toS y
  apply Ev.rounds
  unfold mailbaglaw11_RecApart.f
  have yes : Ev (fun k => mailbaglaw11_RecApart.j0 k true q t (a.map toS) q' t' (b.map toS)) true :=
    Ev.step (f := fun _ => some true) (fun k => by simp only [mailbaglaw11_RecApart.j0]; rfl) (Ev.now _)
  refine ev_bind head11_ev (ev_pos rfl ?_)
  by_cases c : a.length > 40
  · exact ev_pos (by simp; omega) yes
  refine ev_neg (by simp; omega) ?_
  by_cases c2 : b.length > 40
  · rw [decide_eq_true (by simp; omega)]
    exact yes
  rw [decide_eq_false (by simp; omega)]
  exact apart q t q' t' a b (by omega) (by omega)
theorem walk_RecApart (x0 : Int × Int × List S62) (cs0 : List Value) (x1 : Int × Int × List S62) (cs1 : List Value) (w : World) (hK0 : (Kd.pair (Kd.int .i64) (Kd.pair (Kd.int .i64) (Kd.slice 62 k62))).K w x0 cs0)
    {ok0 ok1 : Prop} (_ : ok0) (hK1 : (Kd.pair (Kd.int .i64) (Kd.pair (Kd.int .i64) (Kd.slice 62 k62))).K w x1 cs1) (_ : ok1) :
    Calls Try.prog 7 #[.agg cs0.toArray, .agg cs1.toArray] w fun e w' => e = .returned (.bool true) ∧ Below w.heap.size w w' := by
  obtain ⟨q, t, x⟩ := x0
  obtain ⟨q', t', y⟩ := x1
  obtain ⟨_, _, rfl, rfl, ⟨_, _, rfl, rfl, ⟨A0, c0, rfl, hl0, hC0⟩⟩⟩ := hK0
  obtain ⟨_, _, rfl, rfl, ⟨_, _, rfl, rfl, ⟨A1, c1, rfl, hl1, hC1⟩⟩⟩ := hK1
  obtain ⟨k, h⟩ := RecApart q t x q' t' y
  exact mailbaglaw11_RecApart.calls k q t A0 c0 x q' t' A1 c1 y true w hC0 hl0 hC1 hl1 h
end Go.Proofs.Ytcoollbcnpmlfaa.Pure
