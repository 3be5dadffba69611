/- Lemmas that the proof needs, part 14. -/
import Derived.Test.YtmafibbnojdpjaaWKept
import Derived.Deep.RegionHeld3
import Derived.Test.YtmafibbnojdpjaaWWords
import Derived.Deep.RegionLaw
import Derived.Test.YtmafibbnojdpjaaSs91
import Derived.Test.YtmafibbnojdpjaaSs92
import Derived.Test.YtmafibbnojdpjaaSs93
import Derived.Test.YtmafibbnojdpjaaSs94
import Derived.Test.YtmafibbnojdpjaaSs95
import Derived.Test.YtmafibbnojdpjaaSs96
import Derived.Test.YtmafibbnojdpjaaSs97
import Derived.Test.YtmafibbnojdpjaaSs98
import Derived.Test.YtmafibbnojdpjaaSs99
import Derived.Test.YtmafibbnojdpjaaSs910
import Derived.Test.YtmafibbnojdpjaaSs911
import Derived.Test.YtmafibbnojdpjaaSs912
import Derived.Test.YtmafibbnojdpjaaSs913
section
set_option linter.unusedVariables false
set_option maxRecDepth 100000
set_option linter.unusedSimpArgs false
namespace Go.Proofs.Ytmafibbnojdpjaa.St
open Go.Proofs.Ytmafibbnojdpjaa.Tr Go.RowKit Go.Proofs.YtmafibbnojdpjaaW.PrintWords Go.Proofs.YtmafibbnojdpjaaW.PrintLast Go.Proofs.YtmafibbnojdpjaaW.PrintMore Go.Proofs.Ytmafibbnojdpjaa.P
variable {G : Nat → Prop} {col : Nat → Nat} {w w' : World} {s : Nat} {M : StM} {H : Value} {L : List Tr.Item}
/-- what belongs to a key behind a commit -/
def getO (M : StM) (x : ByteArray) (q : Int) : Option ByteArray := atO (chainK M.K x) q
theorem chain_len {t : Int} {K : List KC} (h : Mid t K) (ht : -1 ≤ t) (ht2 : t ≤ maxSeq) (x : ByteArray) : (chainK K x).length < 4611686018427387904 := by
  have := ch_len (chainK_ok h x) ht
  unfold maxSeq at ht2
  omega
set_option maxHeartbeats 2000000 in
theorem get_any (h : StoreC G col w s M H L) (hinv : Inv M) (hsz : M.K.length ≤ 2000000) (x : ByteArray) (q : Int) :
    Calls Try.prog 51 #[.pointer (some ⟨s, 0, none⟩), .string x, .int .i64 q] w fun e w' => e = .returned (.tuple #[.string ((getO M x q).getD ⟨#[]⟩), .bool (getO M x q).isSome]) ∧ Below w.heap.size w w' := by
  have HG := Aside0.mk (get_chain h hinv.srt (by unfold maxTree; omega) x)
  have HAT : Aside0 (∀ (A : Option Addr) (n : Nat) (W : World), (chainK M.K x).length ≤ n → Kd.C k118 W A (chainK M.K x).length (chainK M.K x) → Calls Try.prog 83 #[.slice A (chainK M.K x).length n, .int .i64 q] W fun e w' => e = .returned (.tuple #[.string ((getO M x q).getD ⟨#[]⟩), .bool (getO M x q).isSome]) ∧ Below W.heap.size W w') := ⟨fun A n W hn hC => at_any (chainK_ok hinv.mid x).up A n q W hC hn (chain_len hinv.mid (by have := hinv.last0; omega) hinv.last x)⟩
  clear h hinv hsz
  generalize getO M x q = r at *
  go_enter Try.func51, Try.ntmps51
  go_wp2_with (first
    | (go_at_call 67; refine HG.out.mono ?_; rintro e w1 ⟨v, rfl, hr, hb⟩; obtain ⟨A, n, rfl, hn, hC⟩ := Kd.R_reads hr; have HC := Aside0.mk (Kd.C_below hC hb); have HN := Aside0.mk hn; have HB := Aside0.mk hb; clear hr hb hn hC)
    | (go_at_call 83; refine (HAT.out A n _ HN.out HC.out).mono ?_; rintro e w2 ⟨rfl, hb⟩; have HB2 := Aside0.mk (below_step HB.out hb); clear hb))
  go_ret2
  exact ⟨rfl, HB2.out⟩
/-- the tree's items are keys and slices, one by one with the chains -/
theorem store_Z {ok : Nat → Prop} : ∀ {L : List Tr.Item} {K : List KC}, F2 (ChAt ok w) L K → ∃ Z : List Tr.Pair, L = Z.map zi ∧ F2 (fun (z : Tr.Pair) (b : KC) => z.1 = b.1 ∧ Kd.R k118 118 w 0 ok (SV z.2) b.2 ∧ z.2.2.1 = b.2.length) Z K
  | [], [], _ => ⟨[], rfl, trivial⟩
  | a :: l, b :: m, h => by
    obtain ⟨Z, h1, h2⟩ := store_Z h.2
    obtain ⟨A, n, e⟩ := Kd.R_slice h.1.2
    obtain ⟨ak, av⟩ := a
    replace e : av = .slice A b.2.length n := e
    subst e
    exact ⟨(ak, (A, b.2.length, n)) :: Z, by rw [h1]; rfl, ⟨h.1.1, h.1.2, rfl⟩, h2⟩
  | [], b :: m, h => h.elim
  | a :: l, [], h => h.elim
/-- what is shown of a key behind a commit -/
def sh (M : StM) (q : Int) (k : ByteArray) : List (ByteArray × ByteArray) := match getO M k q with | some v => [(k, v)] | none => []
/-- the keys from x on, ahead of y, with what belongs to them -/
def showM (M : StM) (x y : ByteArray) (q : Int) : List (ByteArray × ByteArray) := ((M.K.filter fun b => !decide (kl b.1 x)).filter fun b => decide (y = ⟨#[]⟩) || decide (kl b.1 y)).flatMap fun b => sh M q b.1
def shZ (M : StM) (q : Int) (Z : List Tr.Pair) : List (ByteArray × ByteArray) := Z.flatMap fun a => sh M q a.1
theorem shZ_snoc (M : StM) (q : Int) (Z : List Tr.Pair) (a : Tr.Pair) : shZ M q (Z ++ [a]) = shZ M q Z ++ sh M q a.1 := by simp [shZ]
theorem F2_keys {R : Tr.Pair → KC → Prop} (hR : ∀ a b, R a b → a.1 = b.1) : ∀ {Z : List Tr.Pair} {K : List KC}, F2 R Z K → Z.map (·.1) = K.map (·.1)
  | [], [], _ => rfl
  | a :: l, b :: m, h => by rw [List.map_cons, List.map_cons, hR a b h.1, F2_keys hR h.2]
  | [], b :: m, h => h.elim
  | a :: l, [], h => h.elim
theorem show_keys {M : StM} {q : Int} {x y : ByteArray} {Z : List Tr.Pair} (h : Z.map (·.1) = M.K.map (·.1)) : shZ M q (rangeL Z x y) = showM M x y q := by
  have gen : ∀ (f g : ByteArray → Bool) (A : List Tr.Pair) (B : List KC), A.map (·.1) = B.map (·.1) → ((A.filter fun a => f a.1).filter fun a => g a.1).flatMap (fun a => sh M q a.1) = ((B.filter fun b => f b.1).filter fun b => g b.1).flatMap (fun b => sh M q b.1) := by
    intro f g A
    induction A with
    | nil =>
      intro B h
      cases B with
      | nil => rfl
      | cons b B => cases h
    | cons a A ih =>
      intro B h
      cases B with
      | nil => cases h
      | cons b B =>
        rw [List.map_cons, List.map_cons] at h
        injection h with h1 h2
        have := ih B h2
        rw [List.filter_cons, List.filter_cons, h1]
        cases f b.1 with
        | false => exact this
        | true =>
          rw [if_pos rfl, if_pos rfl, List.filter_cons, List.filter_cons, h1]
          cases g b.1 with
          | false => exact this
          | true => rw [if_pos rfl, if_pos rfl, List.flatMap_cons, List.flatMap_cons, this, h1]
  exact gen (fun k => !decide (kl k x)) (fun k => decide (y = ⟨#[]⟩) || decide (kl k y)) Z M.K h
theorem showM_len (M : StM) (x y : ByteArray) (q : Int) : (showM M x y q).length ≤ M.K.length := by
  have h1 : ∀ A : List KC, (A.flatMap fun b => sh M q b.1).length ≤ A.length := by
    intro A
    induction A with
    | nil => simp
    | cons b A ih =>
      rw [List.flatMap_cons, List.length_append, List.length_cons]
      have : (sh M q b.1).length ≤ 1 := by unfold sh; split <;> simp
      omega
  exact Nat.le_trans (h1 _) (Nat.le_trans (List.length_filter_le _ _) (List.length_filter_le _ _))
end Go.Proofs.Ytmafibbnojdpjaa.St
end
section
set_option linter.unusedVariables false
set_option maxRecDepth 100000
set_option linter.unusedSimpArgs false
namespace Go.Proofs.Ytmafibbnojdpjaa.St
open Go.Proofs.Ytmafibbnojdpjaa.Tr Go.RowKit Go.Proofs.YtmafibbnojdpjaaW.PrintWords Go.Proofs.YtmafibbnojdpjaaW.PrintLast Go.Proofs.YtmafibbnojdpjaaW.PrintMore Go.Proofs.Ytmafibbnojdpjaa.P
attribute [local go_sem] Oper.semAt_some
theorem shZ_len (M : StM) (q : Int) (Z : List Tr.Pair) : (shZ M q Z).length ≤ Z.length := by
  induction Z with
  | nil => exact Nat.le_refl _
  | cons a Z ih =>
    unfold shZ at *
    rw [List.flatMap_cons, List.length_append, List.length_cons]
    have : (sh M q a.1).length ≤ 1 := by unfold sh; split <;> simp
    omega
theorem shZ_pre {M : StM} {q : Int} {A B : List Tr.Pair} (h : A <+: B) : shZ M q A <+: shZ M q B := by
  obtain ⟨t, rfl⟩ := h
  exact ⟨shZ M q t, by simp [shZ]⟩
theorem F2_mem {R : Tr.Pair → KC → Prop} {Z : List Tr.Pair} {K : List KC} (h : F2 R Z K) {z : Tr.Pair} (hz : z ∈ Z) : ∃ b ∈ K, R z b := h.left z hz
theorem kb_own {β : Type} {B : Nat → Prop} {V : World} {n : Nat} (hB : ∀ k, B k → k < n) (hn : n ≤ V.heap.size) : OwnFrom n (fun (_ : β) X => Kb B V X) := fun s X Y row hs hg hr =>
  ⟨Nat.le_trans hs.size hg.size, fun k hk hl => (hg.block k (Nat.lt_of_lt_of_le hl hs.size) (fun e => by have := (hr k e.symm).1; have := hB k hk; omega)).trans (hs.block k hk hl)⟩
variable {G : Nat → Prop} {col : Nat → Nat} {w w' : World} {s : Nat} {M : StM} {H : Value} {L : List Tr.Item}
theorem srange_any (p : Option Addr) (x y : ByteArray) (q : Int) (w : World) : Calls Try.prog 55 #[.pointer p, .string x, .string y, .int .i64 q] w fun e w' =>
    e = .returned (.func (.func 84) #[] #[.pointer (some ⟨w.heap.size, 0, none⟩), .pointer (some ⟨w.heap.size + 1, 0, none⟩), .pointer (some ⟨w.heap.size + 2, 0, none⟩), .pointer (some ⟨w.heap.size + 3, 0, none⟩)]) ∧ w' = (((w.alloc (.cells #[.pointer p] 32)).alloc (.cells #[.string x] 9)).alloc (.cells #[.string y] 9)).alloc (.cells #[.int .i64 q] 3) := by
  go_enter Try.func55, Try.ntmps55
  go_wp2
  go_ret
  exact ⟨rfl, rfl⟩
abbrev KV := ByteArray × ByteArray
def kvV (a : KV) : Array Value := #[.string a.1, .string a.2]
set_option maxHeartbeats 8000000 in
theorem srange_stops (n : Nat) (hn : 3 ≤ n) (bs bf bt bq s : Nat) (B : Nat → Prop) (x y : ByteArray) (q : Int) (w : World) (hB0 : B bs) (hB1 : B bf) (hB2 : B bt) (hB3 : B bq) (h : StoreC G col w s M H L) (hinv : Inv M) (hsz : M.K.length ≤ 2000000) (hGB : ∀ k, k < w.heap.size → G k → B k)
    (h0 : Boxed w bs 32 (.pointer (some ⟨s, 0, none⟩))) (h1 : Boxed w bf 9 (.string x)) (h2 : Boxed w bt 9 (.string y)) (h3 : Boxed w bq 3 (.int .i64 q)) (hBl : ∀ k, B k → k < w.heap.size) :
    SeqO Foe n Try.prog 84 #[.pointer (some ⟨bs, 0, none⟩), .pointer (some ⟨bf, 0, none⟩), .pointer (some ⟨bt, 0, none⟩), .pointer (some ⟨bq, 0, none⟩)] kvV B (fun xs => xs = showM M x y q) (fun pre => pre <+: showM M x y q) (M.K.length + 1) w :=
  fun l J Jx W hW hJ hJx hY hz0 => by
    obtain ⟨V, hV⟩ : ∃ V, V = W.alloc (.cells #[.func (.yield l) #[] #[]] 140) := ⟨_, rfl⟩
    have hbV : Below W.heap.size W V := by rw [hV]; exact below_alloc (Below.refl _ _) _
    have hVs : V.heap.size = W.heap.size + 1 := by rw [hV, World.size_alloc]
    have YX : Boxed V W.heap.size 140 (.func (.yield l) #[] #[]) := by rw [hV]; exact Boxed.new _ _ _
    have hws := hW.size
    have b0 := Boxed.upB (Boxed.upB h0 hW) hbV
    have b1 := Boxed.upB (Boxed.upB h1 hW) hbV
    have b2 := Boxed.upB (Boxed.upB h2 hW) hbV
    have b3 := Boxed.upB (Boxed.upB h3 hW) hbV
    have c0 := b0.cell
    have c1 := b1.cell
    have c2 := b2.cell
    have c3 := b3.cell
    have hch : F2 (ChAt (fun k => B k ∧ k < w.heap.size) V) L M.K := h.ch.imp (fun a b q => (q.turn (ok' := fun k => B k ∧ k < w.heap.size) (fun k hk hh => ⟨hGB k hk hh.1, hk⟩)).kept (fun k hk _ => (hbV.block k (Nat.lt_of_lt_of_le hk.2 hws)).trans (hW.block k hk.2)))
    obtain ⟨Z, hZ, hF⟩ := store_Z hch
    have hT := h.tree
    rw [hZ] at hT
    replace hT := ((hT.turn (G := B) (fun k hk hh => hGB k hk hh.1)).below hW).below hbV
    have hkeys := F2_keys (fun a b h => h.1) hF
    have hZl : Z.length = M.K.length := by rw [← List.length_map (f := (·.1)), hkeys, List.length_map]
    have HSHOW := Aside0.mk (show_keys (q := q) (x := x) (y := y) hkeys)
    have HF := Aside0.mk hF
    have HT := Aside0.mk hT
    have C3 := Aside0.mk c3
    have GK := Aside0.mk (fun (b : KC) (hb : b ∈ M.K) => (show getO M b.1 q = atO b.2 q from by unfold getO chainK; rw [getK_some hinv.srt hb]; rfl))
    have UP := Aside0.mk (fun (b : KC) (hb : b ∈ M.K) => And.intro (chainK_ok (t := lastM M) ⟨hinv.srt, hinv.ch⟩ b.1).up (chain_len (t := lastM M) ⟨hinv.srt, hinv.ch⟩ (by have := hinv.last0; omega) hinv.last b.1))
    clear hch hF hT hkeys hZ
    have B3 := Aside0.mk b3
    have HJ0 : Aside0 (J [] V) := ⟨by rw [hV]; exact hJ.alloc _ hz0⟩
    have HY := Aside0.mk hY
    have HVS := Aside0.mk hVs
    have HBl : Aside0 (∀ k, B k → k < W.heap.size) := ⟨fun k hk => Nat.lt_of_lt_of_le (hBl k hk) hws⟩
    have HGB : Aside0 (∀ k, k < w.heap.size → G k → B k) := ⟨hGB⟩
    clear h h0 h1 h2 h3 b0 b1 b2 b3 hY hz0 hbV hVs hGB
    refine callsIn_of_wp_marks Try.func84 rfl trivial ?_ rfl
    simp only [Try.ntmps84, List.size_toArray, List.length_cons, List.length_nil, Nat.reduceAdd, Nat.reduceSub, Array.replicate_succ, Array.replicate_zero, List.push_toArray, List.append_toArray, List.nil_append, List.cons_append]
    rw [hV] at c0 c1 c2 c3
    have HV := Aside0.mk hV
    clear hV
    refine wpIn_wide.2 ?_
    go_wp2
    have S0 : (fun X : World => X.cell? ⟨bs, 0, none⟩ = some (.pointer (some ⟨s, 0, none⟩)) ∧ X.cell? ⟨bf, 0, none⟩ = some (.string x) ∧ X.cell? ⟨bt, 0, none⟩ = some (.string y)) (W.alloc (.cells #[.func (.yield l) #[] #[]] 140)).drew := ⟨c0, c1, c2⟩
    go_region_held3 (fun X : World => X.cell? ⟨bs, 0, none⟩ = some (.pointer (some ⟨s, 0, none⟩)) ∧ X.cell? ⟨bf, 0, none⟩ = some (.string x) ∧ X.cell? ⟨bt, 0, none⟩ = some (.string y)) (first | exact S0 | exact S6) (first
      | (go_at_call 85; refine (Tr.range_any _ _ _ _).mono ?_; rintro e w6 ⟨rfl, hw6⟩
         have hb6 : Below (W.alloc (.cells #[.func (.yield l) #[] #[]] 140)).heap.size (W.alloc (.cells #[.func (.yield l) #[] #[]] 140)) w6 := by rw [hw6]; exact below_alloc (below_alloc (below_alloc (below_drew1 (Below.refl _ _)) _) _) _
         have S6 : (fun X : World => X.cell? ⟨bs, 0, none⟩ = some (.pointer (some ⟨s, 0, none⟩)) ∧ X.cell? ⟨bf, 0, none⟩ = some (.string x) ∧ X.cell? ⟨bt, 0, none⟩ = some (.string y)) w6 := ⟨up hb6 c0, up hb6 c1, up hb6 c2⟩
         have HW6 := Aside0.mk hw6
         have HB6 := Aside0.mk hb6
         clear hw6 hb6))
    clear c0 c1 c2 c3 S0 S6
    have hw6 := HW6.out
    have hV := HV.out
    rw [← hV] at hw6
    have hVs := HVS.out
    obtain ⟨q1, q2, q3⟩ : Boxed w6 (W.heap.size + 1) 149 (.pointer (some ⟨s, 0, none⟩)) ∧ Boxed w6 (W.heap.size + 1 + 1) 9 (.string x) ∧ Boxed w6 (W.heap.size + 1 + 2) 9 (.string y) := by
      rw [hw6, ← hVs]
      exact ⟨((Boxed.new V.drew 149 (.pointer (some ⟨s, 0, none⟩))).alloc _).alloc _, by
        have := (Boxed.new (V.drew.alloc (.cells #[.pointer (some ⟨s, 0, none⟩)] 149)) 9 (.string x)).alloc (.cells #[.string y] 9)
        rw [World.size_alloc] at this
        exact this, by
        have := Boxed.new ((V.drew.alloc (.cells #[.pointer (some ⟨s, 0, none⟩)] 149)).alloc (.cells #[.string x] 9)) 9 (.string y)
        rw [World.size_alloc, World.size_alloc] at this
        exact this⟩
    have hb6 := HB6.out
    rw [← hV] at hb6
    have hz6 : w6.heap.size = V.heap.size + 3 := by rw [hw6]; simp
    have HJ6 : Aside0 (J [] w6) := ⟨by
      rw [hw6]
      refine hJ.alloc _ (hJ.alloc _ (hJ.alloc _ ?_))
      exact hJ _ _ _ none HJ0.out (grownBy_drew _ _) (fun r e => by cases e)⟩
    have Y6 := Aside0.mk (Boxed.upB YX hb6)
    have BX6 := Aside0.mk (And.intro q1 (And.intro q2 q3))
    have KB6 : Aside0 (Kb B V w6) := ⟨.below hb6⟩
    have hT6 := HT.out.below hb6
    clear hw6 hV HV HW6 HB6 YX
    go_wp2
    refine (wpIn_wide (n := n)).1 ?_
    have hseq := range_stops (R := (.int .i64 M.low, H)) (n - 1) (by omega) (W.heap.size + 1) (W.heap.size + 1 + 1) (W.heap.size + 1 + 2) s (fun k => B k ∨ (k = W.heap.size + 1 ∨ k = W.heap.size + 1 + 1 ∨ k = W.heap.size + 1 + 2)) x y Z w6 (.inr (.inl rfl)) (.inr (.inr (.inl rfl))) (.inr (.inr (.inr rfl))) (by rw [hZl]; unfold maxTree; omega)
      (hT6.turn (fun k _ hk => .inl hk)) q1 q2 q3 (fun k hk => by rcases hk with hk | hk | hk | hk; exact Nat.lt_trans (HBl.out k hk) (by omega); all_goals omega)
    refine' rangeO rfl (enters_of Try.func108 (by kernel_rfl) rfl) (by omega) hseq (Below.refl _ _) (fun k hk => by rcases hk with hk | hk | hk | hk; exact Nat.lt_trans (HBl.out k hk) (by omega); all_goals omega) (fun _ => rfl)
      (fun pre X => J (shZ M q (vals pre)) X ∧ (Kb B V X ∧ (Boxed X W.heap.size 140 (.func (.yield l) #[] #[]) ∧ (Boxed X (W.heap.size + 1) 149 (.pointer (some ⟨s, 0, none⟩)) ∧ (Boxed X (W.heap.size + 1 + 1) 9 (.string x) ∧ Boxed X (W.heap.size + 1 + 2) 9 (.string y))))))
      (fun c pre X => c = .ret ∧ Jx (shZ M q (vals pre)) X)
      (OwnFrom.and (fun s A C row a b c => own_up hJ (by omega) (shZ M q (vals s)) A C row a b c) (OwnFrom.and (own_up (kb_own HBl.out (by omega)) (by omega)) (OwnFrom.and (boxed_const _ _ _ _) (OwnFrom.and (boxed_const _ _ _ _) (OwnFrom.and (boxed_const _ _ _ _) (boxed_const _ _ _ _))))))
      (fun c s A C row hs hg hr => ⟨hs.1, own_up hJx (by omega) _ _ _ _ hs.2 hg hr⟩)
      ⟨HJ6.out, KB6.out, Y6.out, BX6.out⟩ _ ?assign ?body ?done ?stop
    case assign =>
      intro l2 x W K hK
      dsimp only [pe]
      gi_wp2
      exact hK
    case body =>
      rintro l2 pre e X ⟨hj, hkb, hy, hbx⟩ hl
      have HBX := Aside0.mk hbx
      clear hbx
      have cy := hy.cell
      have cq := hkb.cell hB3 C3.out
      obtain ⟨⟨ek, ev⟩, he⟩ := e
      obtain ⟨b, hb, hkx, hR, hlen⟩ := F2_mem HF.out he
      dsimp only at hkx hR hlen
      obtain ⟨ea, ec, hs, hcap, hC⟩ := Kd.R_reads (Kd.R_step hR (fun k hk hlt => hkb.block k hk.1 hlt))
      obtain ⟨u1, u2⟩ := UP.out b hb
      have hch : chainK M.K b.1 = b.2 := by unfold chainK; rw [getK_some hinv.srt hb]; rfl
      rw [hch] at u1 u2
      have hg := GK.out b hb
      rw [← hkx] at hg
      have HAT := Aside0.mk (at_any u1 ea ec q X hC hcap u2)
      rw [← hg] at HAT
      have hpl : (shZ M q (vals pre)).length < M.K.length + 1 := by
        have := shZ_len M q (vals pre)
        have : (vals pre).length = pre.length := List.length_map ..
        omega
      have hsn : shZ M q (vals (pre ++ [⟨(ek, ev), he⟩])) = shZ M q (vals pre) ++ sh M q ek := by rw [vals_snoc, shZ_snoc]
      have HKB := Aside0.mk hkb
      have HYB := Aside0.mk hy
      have HJp := Aside0.mk hj
      dsimp only [pe]
      rw [hs]
      clear hlen hR hC hcap u1 u2 hch hkx hb hy hkb hj
      cases hgo : getO M ek q with
      | none =>
        rw [show sh M q ek = [] from by unfold sh; rw [hgo], List.append_nil] at hsn
        have HSN := Aside0.mk hsn
        rw [hgo] at HAT
        clear hgo hg hsn cy
        gi_wp2_with (refine ⟨trivial, fun h => (by simp [Fence.wide] at h), ?_⟩; refine (CallsIn.inRound l2 (callsIn_wide.2 HAT.out)).mono ?_; rintro e w7 ⟨rfl, hb⟩; have HB7 := Aside0.mk hb; clear hb)
        refine ⟨fun f h => (by cases h), ?_⟩
        gi_wp2
        have hb7 := HB7.out
        have hg7 : X.grownBy w7 none := ⟨hb7.os, hb7.tape, hb7.output, hb7.size, fun k hk _ => hb7.block k hk⟩
        exact ⟨⟨hb7.size, fun k o hk ho _ => (hb7.block k (Array.getElem?_eq_some_iff.1 ho).1).trans ho⟩, .below hb7, by rw [HSN.out]; exact hJ _ _ _ none HJp.out hg7 (fun r e => by cases e), HKB.out.trans (.below hb7), Boxed.upB HYB.out hb7, Boxed.upB HBX.out.1 hb7, Boxed.upB HBX.out.2.1 hb7, Boxed.upB HBX.out.2.2 hb7⟩
      | some v =>
        rw [show sh M q ek = [(ek, v)] from by unfold sh; rw [hgo]] at hsn
        have HSN := Aside0.mk hsn
        rw [hgo] at HAT
        clear hgo hg hsn
        have HY7 : Aside0 (∀ w7, Below X.heap.size X w7 → YieldAt Fence.wide (n - 1) Try.prog l (kvV (ek, v)) w7 _) := ⟨fun w7 hb7 => HY.out (shZ M q (vals pre)) (ek, v) w7 (hJ _ _ _ none HJp.out ⟨hb7.os, hb7.tape, hb7.output, hb7.size, fun k hk _ => hb7.block k hk⟩ (fun r e => by cases e)) hpl⟩
        gi_wp2_with (refine ⟨trivial, fun h => (by simp [Fence.wide] at h), ?_⟩; refine (CallsIn.inRound l2 (callsIn_wide.2 HAT.out)).mono ?_; rintro e w7 ⟨rfl, hb⟩; have cy := up hb cy; obtain ⟨fn, tmps, asg, bdy, hyy, _, hr⟩ := HY7.out w7 hb; simp only [kvV] at hyy; have HR := Aside0.mk hr; have HB7 := Aside0.mk hb; clear hb hr)
        refine ⟨fun h => (by simp [Fence.wide] at h), RoundIn.mono (⟨trivial, fun c cs _ => HR.out c cs (room_wide _)⟩ : RoundIn (Fence.wide.inRound l2) _ Try.prog l fn tmps asg bdy w7 _) ?_⟩
        have hb7 := HB7.out
        have hy7 := Boxed.upB HYB.out hb7
        have hk7 : Kb B V w7 := HKB.out.trans (.below hb7)
        have HB7' := Aside0.mk hb7
        have HY7' := Aside0.mk hy7
        have HK7' := Aside0.mk hk7
        clear hb7 hy7 hk7
        rintro e' X' (h | ⟨rfl, hj', hk'⟩)
        · have hq := Aside0.mk h
          obtain rfl := h.1
          clear h
          gi_wp2
          obtain ⟨_, h2, h3⟩ := hq.out
          have hb7 := HB7'.out
          have bx7 : Boxed w7 (W.heap.size + 1) 149 (.pointer (some ⟨s, 0, none⟩)) ∧ Boxed w7 (W.heap.size + 1 + 1) 9 (.string x) ∧ Boxed w7 (W.heap.size + 1 + 2) 9 (.string y) := ⟨Boxed.upB HBX.out.1 hb7, Boxed.upB HBX.out.2.1 hb7, Boxed.upB HBX.out.2.2 hb7⟩
          have g1 := h3.boxed (b := W.heap.size + 1) (by omega) (by decide) bx7.1
          have g2 := h3.boxed (b := W.heap.size + 1 + 1) (by omega) (by decide) bx7.2.1
          have g3 := h3.boxed (b := W.heap.size + 1 + 2) (by omega) (by decide) bx7.2.2
          refine ⟨⟨Nat.le_trans hb7.size h3.size, fun k o hk ho hc => h3.fresh k o (by omega) ((hb7.block k (Array.getElem?_eq_some_iff.1 ho).1).trans ho) (not_foe_cells hc)⟩, Kf.trans (.below hb7) ⟨h3.size, fun k hk hl => ?_, fun k o hk ho hf => h3.fresh k o (by omega) ho hf⟩, by rw [HSN.out]; exact h2, HK7'.out.trans h3.kb, h3.boxed (Nat.le_refl _) (by decide) HY7'.out, g1, g2, g3⟩
          rcases hk with hk | rfl | rfl | rfl
          · exact h3.block k hk hl
          · exact Eq.trans g1 (Eq.symm bx7.1)
          · exact Eq.trans g2 (Eq.symm bx7.2.1)
          · exact Eq.trans g3 (Eq.symm bx7.2.2)
        · have hb7 := HB7'.out
          have HJ' := Aside0.mk hj'
          have HK' := Aside0.mk hk'
          clear hb7 hj' hk'
          gi_wp2
          have hb7 := HB7'.out
          have hk' := HK'.out
          exact ⟨⟨Nat.le_trans hb7.size hk'.size, fun k o hk ho hc => hk'.same k o (by omega) ((hb7.block k (Array.getElem?_eq_some_iff.1 ho).1).trans ho) hc⟩, rfl, by rw [HSN.out]; exact HJ'.out⟩
    case done =>
      rintro D xs X hD hxs ⟨hj, _⟩ hK
      replace hxs : vals xs = rangeL Z x y := hxs
      gi_wp2
      refine ⟨by simp, .inl ⟨_, _, rfl, run_takeDeferred hK, ?_⟩⟩
      exact ⟨_, results_none rfl _ _ _, ⟨_, rfl⟩, .inl ⟨_, by rw [hxs]; exact HSHOW.out, hJ.putObj _ hj (by omega) hK rfl⟩⟩
    case stop =>
      rintro D c pre X hD hsp ⟨rfl, hx⟩ hK
      replace hsp : vals pre <+: rangeL Z x y := hsp
      gi_wp2
      refine ⟨by simp, .inl ⟨_, _, rfl, run_takeDeferred hK, ?_⟩⟩
      refine ⟨_, results_none rfl _ _ _, ⟨_, rfl⟩, .inr ⟨_, ?_, hJx.putObj _ hx (by omega) hK rfl⟩⟩
      have := shZ_pre (M := M) (q := q) hsp
      rwa [HSHOW.out] at this
end Go.Proofs.Ytmafibbnojdpjaa.St
end
section
set_option linter.unusedVariables false
set_option maxRecDepth 100000
set_option linter.unusedSimpArgs false
namespace Go.Proofs.Ytmafibbnojdpjaa.St
open Go.Proofs.Ytmafibbnojdpjaa.Tr Go.RowKit Go.Proofs.YtmafibbnojdpjaaW.PrintWords Go.Proofs.YtmafibbnojdpjaaW.PrintLast Go.Proofs.YtmafibbnojdpjaaW.PrintMore Go.Proofs.Ytmafibbnojdpjaa.P
attribute [local go_sem] Oper.semAt_some
/-- what a state shows behind a commit -/
abbrev ShE (M : StM) (q : Int) : Type := { a : KV // getO M a.1 q = some a.2 }
def valE {M : StM} {q : Int} (l : List (ShE M q)) : List KV := l.map (·.1)
def she (M : StM) (q : Int) (k : ByteArray) : List (ShE M q) := match h : getO M k q with | some v => [⟨(k, v), h⟩] | none => []
def shE (M : StM) (q : Int) (Z : List Tr.Pair) : List (ShE M q) := Z.flatMap fun a => she M q a.1
theorem she_none {M : StM} {q : Int} {k : ByteArray} (h : getO M k q = none) : she M q k = [] := by
  unfold she
  split
  · rename_i v e; rw [h] at e; cases e
  · rfl
theorem she_some {M : StM} {q : Int} {k v : ByteArray} (h : getO M k q = some v) : ∃ el : ShE M q, el.1 = (k, v) ∧ she M q k = [el] := by
  unfold she
  split
  · rename_i v2 e
    have e2 : v2 = v := by rw [h] at e; injection e with e; exact e.symm
    subst e2
    exact ⟨⟨(k, v2), e⟩, rfl, rfl⟩
  · rename_i e; rw [h] at e; cases e
theorem shE_snoc (M : StM) (q : Int) (Z : List Tr.Pair) (a : Tr.Pair) : shE M q (Z ++ [a]) = shE M q Z ++ she M q a.1 := by simp [shE]
theorem val_she (M : StM) (q : Int) (k : ByteArray) : valE (she M q k) = sh M q k := by
  cases h : getO M k q with
  | none => rw [she_none h]; unfold sh; rw [h]; rfl
  | some v =>
    obtain ⟨el, h1, h2⟩ := she_some h
    rw [h2]
    unfold sh valE
    rw [h, List.map_cons, h1]
    rfl
theorem valE_shE (M : StM) (q : Int) (Z : List Tr.Pair) : valE (shE M q Z) = shZ M q Z := by
  unfold shE shZ
  induction Z with
  | nil => rfl
  | cons a Z ih =>
    rw [List.flatMap_cons, List.flatMap_cons, ← ih, ← val_she]
    unfold valE
    rw [List.map_append]
theorem shE_len (M : StM) (q : Int) (Z : List Tr.Pair) : (shE M q Z).length ≤ Z.length := by
  have := shZ_len M q Z
  rw [← valE_shE] at this
  unfold valE at this
  rwa [List.length_map] at this
theorem valE_snoc {M : StM} {q : Int} (l : List (ShE M q)) (a : ShE M q) : valE (l ++ [a]) = valE l ++ [a.1] := by simp [valE]
theorem valE_len {M : StM} {q : Int} (l : List (ShE M q)) : (valE l).length = l.length := List.length_map _
variable {G : Nat → Prop} {col : Nat → Nat} {w w' : World} {s : Nat} {M : StM} {H : Value} {L : List Tr.Item}
set_option maxHeartbeats 8000000 in
theorem srange_el (n : Nat) (hn : 3 ≤ n) (bs bf bt bq s : Nat) (B : Nat → Prop) (x y : ByteArray) (q : Int) (w : World) (hB0 : B bs) (hB1 : B bf) (hB2 : B bt) (hB3 : B bq) (h : StoreC G col w s M H L) (hinv : Inv M) (hsz : M.K.length ≤ 2000000) (hGB : ∀ k, k < w.heap.size → G k → B k)
    (h0 : Boxed w bs 32 (.pointer (some ⟨s, 0, none⟩))) (h1 : Boxed w bf 9 (.string x)) (h2 : Boxed w bt 9 (.string y)) (h3 : Boxed w bq 3 (.int .i64 q)) (hBl : ∀ k, B k → k < w.heap.size) :
    SeqO Foe n Try.prog 84 #[.pointer (some ⟨bs, 0, none⟩), .pointer (some ⟨bf, 0, none⟩), .pointer (some ⟨bt, 0, none⟩), .pointer (some ⟨bq, 0, none⟩)] (fun a : ShE M q => kvV a.1) B (fun xs => valE xs = showM M x y q) (fun pre => valE pre <+: showM M x y q) (M.K.length + 1) w :=
  fun l J Jx W hW hJ hJx hY hz0 => by
    obtain ⟨V, hV⟩ : ∃ V, V = W.alloc (.cells #[.func (.yield l) #[] #[]] 140) := ⟨_, rfl⟩
    have hbV : Below W.heap.size W V := by rw [hV]; exact below_alloc (Below.refl _ _) _
    have hVs : V.heap.size = W.heap.size + 1 := by rw [hV, World.size_alloc]
    have YX : Boxed V W.heap.size 140 (.func (.yield l) #[] #[]) := by rw [hV]; exact Boxed.new _ _ _
    have hws := hW.size
    have b0 := Boxed.upB (Boxed.upB h0 hW) hbV
    have b1 := Boxed.upB (Boxed.upB h1 hW) hbV
    have b2 := Boxed.upB (Boxed.upB h2 hW) hbV
    have b3 := Boxed.upB (Boxed.upB h3 hW) hbV
    have c0 := b0.cell
    have c1 := b1.cell
    have c2 := b2.cell
    have c3 := b3.cell
    have hch : F2 (ChAt (fun k => B k ∧ k < w.heap.size) V) L M.K := h.ch.imp (fun a b q => (q.turn (ok' := fun k => B k ∧ k < w.heap.size) (fun k hk hh => ⟨hGB k hk hh.1, hk⟩)).kept (fun k hk _ => (hbV.block k (Nat.lt_of_lt_of_le hk.2 hws)).trans (hW.block k hk.2)))
    obtain ⟨Z, hZ, hF⟩ := store_Z hch
    have hT := h.tree
    rw [hZ] at hT
    replace hT := ((hT.turn (G := B) (fun k hk hh => hGB k hk hh.1)).below hW).below hbV
    have hkeys := F2_keys (fun a b h => h.1) hF
    have hZl : Z.length = M.K.length := by rw [← List.length_map (f := (·.1)), hkeys, List.length_map]
    have HSHOW := Aside0.mk (show_keys (q := q) (x := x) (y := y) hkeys)
    have HF := Aside0.mk hF
    have HT := Aside0.mk hT
    have C3 := Aside0.mk c3
    have GK := Aside0.mk (fun (b : KC) (hb : b ∈ M.K) => (show getO M b.1 q = atO b.2 q from by unfold getO chainK; rw [getK_some hinv.srt hb]; rfl))
    have UP := Aside0.mk (fun (b : KC) (hb : b ∈ M.K) => And.intro (chainK_ok (t := lastM M) ⟨hinv.srt, hinv.ch⟩ b.1).up (chain_len (t := lastM M) ⟨hinv.srt, hinv.ch⟩ (by have := hinv.last0; omega) hinv.last b.1))
    clear hch hF hT hkeys hZ
    have B3 := Aside0.mk b3
    have HJ0 : Aside0 (J [] V) := ⟨by rw [hV]; exact hJ.alloc _ hz0⟩
    have HY := Aside0.mk hY
    have HVS := Aside0.mk hVs
    have HBl : Aside0 (∀ k, B k → k < W.heap.size) := ⟨fun k hk => Nat.lt_of_lt_of_le (hBl k hk) hws⟩
    have HGB : Aside0 (∀ k, k < w.heap.size → G k → B k) := ⟨hGB⟩
    clear h h0 h1 h2 h3 b0 b1 b2 b3 hY hz0 hbV hVs hGB
    refine callsIn_of_wp_marks Try.func84 rfl trivial ?_ rfl
    simp only [Try.ntmps84, List.size_toArray, List.length_cons, List.length_nil, Nat.reduceAdd, Nat.reduceSub, Array.replicate_succ, Array.replicate_zero, List.push_toArray, List.append_toArray, List.nil_append, List.cons_append]
    rw [hV] at c0 c1 c2 c3
    have HV := Aside0.mk hV
    clear hV
    refine wpIn_wide.2 ?_
    go_wp2
    have S0 : (fun X : World => X.cell? ⟨bs, 0, none⟩ = some (.pointer (some ⟨s, 0, none⟩)) ∧ X.cell? ⟨bf, 0, none⟩ = some (.string x) ∧ X.cell? ⟨bt, 0, none⟩ = some (.string y)) (W.alloc (.cells #[.func (.yield l) #[] #[]] 140)).drew := ⟨c0, c1, c2⟩
    go_region_held3 (fun X : World => X.cell? ⟨bs, 0, none⟩ = some (.pointer (some ⟨s, 0, none⟩)) ∧ X.cell? ⟨bf, 0, none⟩ = some (.string x) ∧ X.cell? ⟨bt, 0, none⟩ = some (.string y)) (first | exact S0 | exact S6) (first
      | (go_at_call 85; refine (Tr.range_any _ _ _ _).mono ?_; rintro e w6 ⟨rfl, hw6⟩
         have hb6 : Below (W.alloc (.cells #[.func (.yield l) #[] #[]] 140)).heap.size (W.alloc (.cells #[.func (.yield l) #[] #[]] 140)) w6 := by rw [hw6]; exact below_alloc (below_alloc (below_alloc (below_drew1 (Below.refl _ _)) _) _) _
         have S6 : (fun X : World => X.cell? ⟨bs, 0, none⟩ = some (.pointer (some ⟨s, 0, none⟩)) ∧ X.cell? ⟨bf, 0, none⟩ = some (.string x) ∧ X.cell? ⟨bt, 0, none⟩ = some (.string y)) w6 := ⟨up hb6 c0, up hb6 c1, up hb6 c2⟩
         have HW6 := Aside0.mk hw6
         have HB6 := Aside0.mk hb6
         clear hw6 hb6))
    clear c0 c1 c2 c3 S0 S6
    have hw6 := HW6.out
    have hV := HV.out
    rw [← hV] at hw6
    have hVs := HVS.out
    obtain ⟨q1, q2, q3⟩ : Boxed w6 (W.heap.size + 1) 149 (.pointer (some ⟨s, 0, none⟩)) ∧ Boxed w6 (W.heap.size + 1 + 1) 9 (.string x) ∧ Boxed w6 (W.heap.size + 1 + 2) 9 (.string y) := by
      rw [hw6, ← hVs]
      exact ⟨((Boxed.new V.drew 149 (.pointer (some ⟨s, 0, none⟩))).alloc _).alloc _, by
        have := (Boxed.new (V.drew.alloc (.cells #[.pointer (some ⟨s, 0, none⟩)] 149)) 9 (.string x)).alloc (.cells #[.string y] 9)
        rw [World.size_alloc] at this
        exact this, by
        have := Boxed.new ((V.drew.alloc (.cells #[.pointer (some ⟨s, 0, none⟩)] 149)).alloc (.cells #[.string x] 9)) 9 (.string y)
        rw [World.size_alloc, World.size_alloc] at this
        exact this⟩
    have hb6 := HB6.out
    rw [← hV] at hb6
    have hz6 : w6.heap.size = V.heap.size + 3 := by rw [hw6]; simp
    have HJ6 : Aside0 (J [] w6) := ⟨by
      rw [hw6]
      refine hJ.alloc _ (hJ.alloc _ (hJ.alloc _ ?_))
      exact hJ _ _ _ none HJ0.out (grownBy_drew _ _) (fun r e => by cases e)⟩
    have Y6 := Aside0.mk (Boxed.upB YX hb6)
    have BX6 := Aside0.mk (And.intro q1 (And.intro q2 q3))
    have KB6 : Aside0 (Kb B V w6) := ⟨.below hb6⟩
    have hT6 := HT.out.below hb6
    clear hw6 hV HV HW6 HB6 YX
    go_wp2
    refine (wpIn_wide (n := n)).1 ?_
    have hseq := range_stops (R := (.int .i64 M.low, H)) (n - 1) (by omega) (W.heap.size + 1) (W.heap.size + 1 + 1) (W.heap.size + 1 + 2) s (fun k => B k ∨ (k = W.heap.size + 1 ∨ k = W.heap.size + 1 + 1 ∨ k = W.heap.size + 1 + 2)) x y Z w6 (.inr (.inl rfl)) (.inr (.inr (.inl rfl))) (.inr (.inr (.inr rfl))) (by rw [hZl]; unfold maxTree; omega)
      (hT6.turn (fun k _ hk => .inl hk)) q1 q2 q3 (fun k hk => by rcases hk with hk | hk | hk | hk; exact Nat.lt_trans (HBl.out k hk) (by omega); all_goals omega)
    refine' rangeO rfl (enters_of Try.func108 (by kernel_rfl) rfl) (by omega) hseq (Below.refl _ _) (fun k hk => by rcases hk with hk | hk | hk | hk; exact Nat.lt_trans (HBl.out k hk) (by omega); all_goals omega) (fun _ => rfl)
      (fun pre X => J (shE M q (vals pre)) X ∧ (Kb B V X ∧ (Boxed X W.heap.size 140 (.func (.yield l) #[] #[]) ∧ (Boxed X (W.heap.size + 1) 149 (.pointer (some ⟨s, 0, none⟩)) ∧ (Boxed X (W.heap.size + 1 + 1) 9 (.string x) ∧ Boxed X (W.heap.size + 1 + 2) 9 (.string y))))))
      (fun c pre X => c = .ret ∧ Jx (shE M q (vals pre)) X)
      (OwnFrom.and (fun s A C row a b c => own_up hJ (by omega) (shE M q (vals s)) A C row a b c) (OwnFrom.and (own_up (kb_own HBl.out (by omega)) (by omega)) (OwnFrom.and (boxed_const _ _ _ _) (OwnFrom.and (boxed_const _ _ _ _) (OwnFrom.and (boxed_const _ _ _ _) (boxed_const _ _ _ _))))))
      (fun c s A C row hs hg hr => ⟨hs.1, own_up hJx (by omega) _ _ _ _ hs.2 hg hr⟩)
      ⟨HJ6.out, KB6.out, Y6.out, BX6.out⟩ _ ?assign ?body ?done ?stop
    case assign =>
      intro l2 x W K hK
      dsimp only [pe]
      gi_wp2
      exact hK
    case body =>
      rintro l2 pre e X ⟨hj, hkb, hy, hbx⟩ hl
      have HBX := Aside0.mk hbx
      clear hbx
      have cy := hy.cell
      have cq := hkb.cell hB3 C3.out
      obtain ⟨⟨ek, ev⟩, he⟩ := e
      obtain ⟨b, hb, hkx, hR, hlen⟩ := F2_mem HF.out he
      dsimp only at hkx hR hlen
      obtain ⟨ea, ec, hs, hcap, hC⟩ := Kd.R_reads (Kd.R_step hR (fun k hk hlt => hkb.block k hk.1 hlt))
      obtain ⟨u1, u2⟩ := UP.out b hb
      have hch : chainK M.K b.1 = b.2 := by unfold chainK; rw [getK_some hinv.srt hb]; rfl
      rw [hch] at u1 u2
      have hg := GK.out b hb
      rw [← hkx] at hg
      have HAT := Aside0.mk (at_any u1 ea ec q X hC hcap u2)
      rw [← hg] at HAT
      have hpl : (shE M q (vals pre)).length < M.K.length + 1 := by
        have := shE_len M q (vals pre)
        have : (vals pre).length = pre.length := List.length_map ..
        omega
      have hsn : shE M q (vals (pre ++ [⟨(ek, ev), he⟩])) = shE M q (vals pre) ++ she M q ek := by rw [vals_snoc, shE_snoc]
      have HKB := Aside0.mk hkb
      have HYB := Aside0.mk hy
      have HJp := Aside0.mk hj
      dsimp only [pe]
      rw [hs]
      clear hlen hR hC hcap u1 u2 hch hkx hb hy hkb hj
      cases hgo : getO M ek q with
      | none =>
        rw [she_none hgo, List.append_nil] at hsn
        have HSN := Aside0.mk hsn
        rw [hgo] at HAT
        clear hgo hg hsn cy
        gi_wp2_with (refine ⟨trivial, fun h => (by simp [Fence.wide] at h), ?_⟩; refine (CallsIn.inRound l2 (callsIn_wide.2 HAT.out)).mono ?_; rintro e w7 ⟨rfl, hb⟩; have HB7 := Aside0.mk hb; clear hb)
        refine ⟨fun f h => (by cases h), ?_⟩
        gi_wp2
        have hb7 := HB7.out
        have hg7 : X.grownBy w7 none := ⟨hb7.os, hb7.tape, hb7.output, hb7.size, fun k hk _ => hb7.block k hk⟩
        exact ⟨⟨hb7.size, fun k o hk ho _ => (hb7.block k (Array.getElem?_eq_some_iff.1 ho).1).trans ho⟩, .below hb7, by rw [HSN.out]; exact hJ _ _ _ none HJp.out hg7 (fun r e => by cases e), HKB.out.trans (.below hb7), Boxed.upB HYB.out hb7, Boxed.upB HBX.out.1 hb7, Boxed.upB HBX.out.2.1 hb7, Boxed.upB HBX.out.2.2 hb7⟩
      | some v =>
        obtain ⟨el, hel, hes⟩ := she_some hgo
        rw [hes] at hsn
        have HSN := Aside0.mk hsn
        rw [hgo] at HAT
        clear hgo hg hsn hes
        have HY7 : Aside0 (∀ w7, Below X.heap.size X w7 → YieldAt Fence.wide (n - 1) Try.prog l (kvV (ek, v)) w7 _) := ⟨fun w7 hb7 => by rw [← hel]; exact HY.out (shE M q (vals pre)) el w7 (hJ _ _ _ none HJp.out ⟨hb7.os, hb7.tape, hb7.output, hb7.size, fun k hk _ => hb7.block k hk⟩ (fun r e => by cases e)) hpl⟩
        gi_wp2_with (refine ⟨trivial, fun h => (by simp [Fence.wide] at h), ?_⟩; refine (CallsIn.inRound l2 (callsIn_wide.2 HAT.out)).mono ?_; rintro e w7 ⟨rfl, hb⟩; have cy := up hb cy; obtain ⟨fn, tmps, asg, bdy, hyy, _, hr⟩ := HY7.out w7 hb; simp only [kvV] at hyy; have HR := Aside0.mk hr; have HB7 := Aside0.mk hb; clear hb hr)
        refine ⟨fun h => (by simp [Fence.wide] at h), RoundIn.mono (⟨trivial, fun c cs _ => HR.out c cs (room_wide _)⟩ : RoundIn (Fence.wide.inRound l2) _ Try.prog l fn tmps asg bdy w7 _) ?_⟩
        have hb7 := HB7.out
        have hy7 := Boxed.upB HYB.out hb7
        have hk7 : Kb B V w7 := HKB.out.trans (.below hb7)
        have HB7' := Aside0.mk hb7
        have HY7' := Aside0.mk hy7
        have HK7' := Aside0.mk hk7
        clear hb7 hy7 hk7
        rintro e' X' (h | ⟨rfl, hj', hk'⟩)
        · have hq := Aside0.mk h
          obtain rfl := h.1
          clear h
          gi_wp2
          obtain ⟨_, h2, h3⟩ := hq.out
          have hb7 := HB7'.out
          have bx7 : Boxed w7 (W.heap.size + 1) 149 (.pointer (some ⟨s, 0, none⟩)) ∧ Boxed w7 (W.heap.size + 1 + 1) 9 (.string x) ∧ Boxed w7 (W.heap.size + 1 + 2) 9 (.string y) := ⟨Boxed.upB HBX.out.1 hb7, Boxed.upB HBX.out.2.1 hb7, Boxed.upB HBX.out.2.2 hb7⟩
          have g1 := h3.boxed (b := W.heap.size + 1) (by omega) (by decide) bx7.1
          have g2 := h3.boxed (b := W.heap.size + 1 + 1) (by omega) (by decide) bx7.2.1
          have g3 := h3.boxed (b := W.heap.size + 1 + 2) (by omega) (by decide) bx7.2.2
          refine ⟨⟨Nat.le_trans hb7.size h3.size, fun k o hk ho hc => h3.fresh k o (by omega) ((hb7.block k (Array.getElem?_eq_some_iff.1 ho).1).trans ho) (not_foe_cells hc)⟩, Kf.trans (.below hb7) ⟨h3.size, fun k hk hl => ?_, fun k o hk ho hf => h3.fresh k o (by omega) ho hf⟩, by rw [HSN.out]; exact h2, HK7'.out.trans h3.kb, h3.boxed (Nat.le_refl _) (by decide) HY7'.out, g1, g2, g3⟩
          rcases hk with hk | rfl | rfl | rfl
          · exact h3.block k hk hl
          · exact Eq.trans g1 (Eq.symm bx7.1)
          · exact Eq.trans g2 (Eq.symm bx7.2.1)
          · exact Eq.trans g3 (Eq.symm bx7.2.2)
        · have hb7 := HB7'.out
          have HJ' := Aside0.mk hj'
          have HK' := Aside0.mk hk'
          clear hb7 hj' hk'
          gi_wp2
          have hb7 := HB7'.out
          have hk' := HK'.out
          exact ⟨⟨Nat.le_trans hb7.size hk'.size, fun k o hk ho hc => hk'.same k o (by omega) ((hb7.block k (Array.getElem?_eq_some_iff.1 ho).1).trans ho) hc⟩, rfl, by rw [HSN.out]; exact HJ'.out⟩
    case done =>
      rintro D xs X hD hxs ⟨hj, _⟩ hK
      replace hxs : vals xs = rangeL Z x y := hxs
      gi_wp2
      refine ⟨by simp, .inl ⟨_, _, rfl, run_takeDeferred hK, ?_⟩⟩
      exact ⟨_, results_none rfl _ _ _, ⟨_, rfl⟩, .inl ⟨_, by rw [valE_shE, hxs]; exact HSHOW.out, hJ.putObj _ hj (by omega) hK rfl⟩⟩
    case stop =>
      rintro D c pre X hD hsp ⟨rfl, hx⟩ hK
      replace hsp : vals pre <+: rangeL Z x y := hsp
      gi_wp2
      refine ⟨by simp, .inl ⟨_, _, rfl, run_takeDeferred hK, ?_⟩⟩
      refine ⟨_, results_none rfl _ _ _, ⟨_, rfl⟩, .inr ⟨_, ?_, hJx.putObj _ hx (by omega) hK rfl⟩⟩
      have := shZ_pre (M := M) (q := q) hsp
      rw [HSHOW.out] at this
      show valE (shE M q (vals pre)) <+: _
      rw [valE_shE]
      exact this
end Go.Proofs.Ytmafibbnojdpjaa.St
end
