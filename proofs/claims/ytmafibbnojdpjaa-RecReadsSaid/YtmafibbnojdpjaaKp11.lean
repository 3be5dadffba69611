/- Lemmas that the proof needs, part 11. -/
import Derived.Deep.RegionLaw
import Derived.Deep.RegionHeld3
import Derived.Test.YtmafibbnojdpjaaKp2
import Derived.Test.YtmafibbnojdpjaaKp3
import Derived.Test.YtmafibbnojdpjaaKp4
import Derived.Test.YtmafibbnojdpjaaKp5
import Derived.Test.YtmafibbnojdpjaaKp6
import Derived.Test.YtmafibbnojdpjaaKp7
import Derived.Test.YtmafibbnojdpjaaKp8
import Derived.Test.YtmafibbnojdpjaaKp9
import Derived.Test.YtmafibbnojdpjaaKp10
section
set_option linter.unusedVariables false
set_option maxRecDepth 100000
set_option linter.unusedSimpArgs false
namespace Go.Proofs.Ytmafibbnojdpjaa.St
open Go.Proofs.Ytmafibbnojdpjaa.Tr Go.RowKit Go.Proofs.YtmafibbnojdpjaaW.PrintWords Go.Proofs.YtmafibbnojdpjaaW.PrintLast Go.Proofs.YtmafibbnojdpjaaW.PrintMore Go.Proofs.Ytmafibbnojdpjaa.P
theorem info31 : (Try.prog.info? 31).map (fun i => (i.zero, i.size, i.bytes)) = some (some (.agg #[.string ⟨#[]⟩, .string ⟨#[]⟩, .bool false]), 3, 40) := by kernel_rfl
theorem k31_KM (w : World) (base : Nat) : ∀ y c, k31.K w y c → k31.M w base (fun _ => False) y c := by
  intro y c hy
  obtain rfl := k31_open hy
  exact k31_mkM _ _ _ _
/-- an empty row of the call's own -/
theorem R_empty {α : Type} (d : Kd α) (w : World) (e base b : Nat) (ok : Nat → Prop) (hb : base ≤ b) (hok : ok b) (hh : w.heap[b]? = some (.cells #[] e (0, 0))) : d.R e w base ok (.slice (some ⟨b, 0, none⟩) 0 0) [] :=
  ⟨fun k hk => by simp [Value.ownBlock] at hk; rw [← hk]; exact hok, [], ⟨by simp, .inr ⟨b, 0, #[], rfl, hb, hh, Nat.le_refl _, by simp [maxLen], by simp, by simp⟩⟩, Reps.none _ _⟩
set_option maxHeartbeats 1000000 in
theorem clonew_any (ws : List Wr) (A : Option Addr) (c : Nat) (w : World) (hr : Kd.C k31 w A ws.length ws) (hc : ws.length ≤ c) (hl : ws.length * 40 ≤ 140737488355328) :
    Calls Try.prog 66 #[.slice A ws.length c] w fun e w' => ∃ v, e = .returned v ∧ Kd.R k31 31 w' w.heap.size (fun _ => True) v ws ∧ Below w.heap.size w w' := by
  have q22 : ∀ (w : World) (a : Option Addr) (n c n' c' : Nat), (binOp .eql 22 (.slice a n c) (.slice none n' c')).run Try.prog w = .ok (.bool a.isNone) w := fun w a n c n' c' => Lib.run_eql_slice_nil w _ _ a n c n' c' Try.underlying22
  cases A with
  | none =>
    have h0 : ws = [] := by
      rcases Nat.eq_zero_or_pos ws.length with h | h
      · exact List.length_eq_zero_iff.1 h
      · obtain ⟨ad, e, _⟩ := hr.2.2 h
        cases e
    subst h0
    clear hr
    go_enter Try.func66, Try.ntmps66
    go_wp2
    go_ret
    exact ⟨_, rfl, Kd.R_nil _ _ _ _ _, Below.refl _ _⟩
  | some ad =>
    have HR := Aside0.mk hr
    have HA : Aside0 (Below w.heap.size w (w.alloc (.cells #[] 31))) := ⟨below_alloc (Below.refl _ _) _⟩
    have HE : Aside0 (Kd.R k31 31 (w.alloc (.cells #[] 31)) w.heap.size (fun _ => True) (.slice (some ⟨w.heap.size, 0, none⟩) 0 0) []) := ⟨R_empty k31 _ 31 _ _ _ (Nat.le_refl _) trivial (heap_alloc_new _ _)⟩
    clear hr
    go_enter Try.func66, Try.ntmps66
    go_wp2_with (refine Kd.R_append_rows k31 (w0 := w) w.heap.size rfl (.tmp 5) (.tmp 6) 22 31 (.agg #[.string ⟨#[]⟩, .string ⟨#[]⟩, .bool false]) 40 rfl Try.underlying22 info31 rfl (by decide) (by decide) _ [] ws (some ad) ws.length c (fun _ => True) (fun _ => False) rfl rfl HE.out (Kd.C_below HR.out HA.out) (fun x cs h => k31_KM _ _ x cs h) (fun k hk => hk.elim) (fun _ _ => trivial) HA.out (by simp) (by simpa using hl) ?_
                 intro v1 w1 h1 h2 h3 h4
                 have H1 := Aside0.mk h1
                 have H2 := Aside0.mk h2
                 clear h1 h2 h3 h4)
    go_ret
    exact ⟨v1, rfl, by simpa using H1.out, H2.out⟩
end Go.Proofs.Ytmafibbnojdpjaa.St
end
section
set_option linter.unusedVariables false
set_option maxRecDepth 100000
set_option linter.unusedSimpArgs false
namespace Go.Proofs.Ytmafibbnojdpjaa.St
open Go.Proofs.Ytmafibbnojdpjaa.Tr Go.RowKit Go.Proofs.YtmafibbnojdpjaaW.PrintWords Go.Proofs.YtmafibbnojdpjaaW.PrintLast Go.Proofs.YtmafibbnojdpjaaW.PrintMore Go.Proofs.Ytmafibbnojdpjaa.P
/-- two lists, one by one -/
def F2 {α β : Type} (R : α → β → Prop) : List α → List β → Prop
  | [], [] => True
  | a :: l, b :: m => R a b ∧ F2 R l m
  | _, _ => False
section
variable {α β : Type} {R R' : α → β → Prop}
theorem F2.imp (hi : ∀ a b, R a b → R' a b) : ∀ {l : List α} {m : List β}, F2 R l m → F2 R' l m
  | [], [], _ => trivial
  | a :: l, b :: m, h => ⟨hi _ _ h.1, F2.imp hi h.2⟩
  | [], b :: m, h => h
  | a :: l, [], h => h
theorem F2.len : ∀ {l : List α} {m : List β}, F2 R l m → l.length = m.length
  | [], [], _ => rfl
  | a :: l, b :: m, h => by rw [List.length_cons, List.length_cons, F2.len h.2]
  | [], b :: m, h => h.elim
  | a :: l, [], h => h.elim
theorem F2.append : ∀ {l : List α} {m : List β} {l' : List α} {m' : List β}, F2 R l m → F2 R l' m' → F2 R (l ++ l') (m ++ m')
  | [], [], _, _, _, k => k
  | a :: l, b :: m, _, _, h, k => ⟨h.1, F2.append h.2 k⟩
  | [], b :: m, _, _, h, _ => h.elim
  | a :: l, [], _, _, h, _ => h.elim
theorem F2.filter {p : α → Bool} {q : β → Bool} (hpq : ∀ a b, R a b → p a = q b) : ∀ {l : List α} {m : List β}, F2 R l m → F2 R (l.filter p) (m.filter q)
  | [], [], _ => trivial
  | a :: l, b :: m, h => by
    have ih := F2.filter hpq h.2
    have e := hpq a b h.1
    cases hp : p a with
    | true =>
      rw [List.filter_cons_of_pos hp, List.filter_cons_of_pos (by rw [← e, hp])]
      exact ⟨h.1, ih⟩
    | false =>
      rw [List.filter_cons_of_neg (by simp [hp]), List.filter_cons_of_neg (by simp [← e, hp])]
      exact ih
  | [], b :: m, h => h.elim
  | a :: l, [], h => h.elim
theorem F2.left : ∀ {l : List α} {m : List β}, F2 R l m → ∀ a ∈ l, ∃ b ∈ m, R a b
  | [], [], _, a, ha => by cases ha
  | x :: l, y :: m, h, a, ha => by
    rcases List.mem_cons.1 ha with rfl | ha
    · exact ⟨y, List.mem_cons_self .., h.1⟩
    · obtain ⟨b, hb, hr⟩ := F2.left h.2 a ha
      exact ⟨b, List.mem_cons_of_mem _ hb, hr⟩
  | [], y :: m, h, _, _ => h.elim
  | x :: l, [], h, _, _ => h.elim
theorem F2.right : ∀ {l : List α} {m : List β}, F2 R l m → ∀ b ∈ m, ∃ a ∈ l, R a b
  | [], [], _, a, ha => by cases ha
  | x :: l, y :: m, h, b, hb => by
    rcases List.mem_cons.1 hb with rfl | hb
    · exact ⟨x, List.mem_cons_self .., h.1⟩
    · obtain ⟨a, ha, hr⟩ := F2.right h.2 b hb
      exact ⟨a, List.mem_cons_of_mem _ ha, hr⟩
  | [], y :: m, h, _, _ => h.elim
  | x :: l, [], h, _, _ => h.elim
end
/-- the blocks of colour c among G: 0 the tree's, 1 the chains', 2 the commits' -/
def Hue (G : Nat → Prop) (col : Nat → Nat) (c : Nat) : Nat → Prop := fun k => G k ∧ col k = c
/-- a key's chain: the value in the tree, the versions in the mind -/
def ChAt (ok : Nat → Prop) (w : World) (a : Tr.Item) (b : KC) : Prop := a.1 = b.1 ∧ Kd.R k118 118 w 0 ok a.2 b.2
structure StoreC (G : Nat → Prop) (col : Nat → Nat) (w : World) (s : Nat) (M : StM) (H : Value) (L : List Tr.Item) : Prop where
  tree : TreeAt (.int .i64 M.low, H) (Hue G col 0) w s L
  ch : F2 (ChAt (Hue G col 1) w) L M.K
  hist : Kd.R k28 28 w 0 (Hue G col 2) H M.hist
variable {G : Nat → Prop} {col : Nat → Nat} {w w' : World} {s : Nat} {M : StM} {H : Value} {L : List Tr.Item}
theorem Hue.recol {col' : Nat → Nat} {n c : Nat} (h : ∀ k, k < n → col' k = col k) (k : Nat) (hk : k < n) (hh : Hue G col c k) : Hue G col' c k := ⟨hh.1, by rw [h k hk]; exact hh.2⟩
theorem ChAt.turn {ok ok' : Nat → Prop} {a : Tr.Item} {b : KC} (h : ChAt ok w a b) (hh : ∀ k, k < w.heap.size → ok k → ok' k) : ChAt ok' w a b := ⟨h.1, Kd.R_mono (Kd.R_bound h.2) (fun k hk => hh k hk.2.2.1 hk.1)⟩
theorem ChAt.kept {ok : Nat → Prop} {a : Tr.Item} {b : KC} (h : ChAt ok w a b) (hh : ∀ k, ok k → k < w.heap.size → w'.heap[k]? = w.heap[k]?) : ChAt ok w' a b := ⟨h.1, Kd.R_step h.2 hh⟩
theorem StoreC.turn {G' : Nat → Prop} {col' : Nat → Nat} (h : StoreC G col w s M H L) (hG : ∀ k, k < w.heap.size → G k → G' k) (hc : ∀ k, k < w.heap.size → col' k = col k) : StoreC G' col' w s M H L := by
  have hh : ∀ c k, k < w.heap.size → Hue G col c k → Hue G' col' c k := fun c k hk q => ⟨hG k hk q.1, by rw [hc k hk]; exact q.2⟩
  exact ⟨h.tree.turn (hh 0), F2.imp (fun a b q => q.turn (hh 1)) h.ch, Kd.R_mono (Kd.R_bound h.hist) (fun k hk => hh 2 k hk.2.2.1 hk.1)⟩
theorem StoreC.kept (h : StoreC G col w s M H L) (hk : ∀ k, G k → k < w.heap.size → w'.heap[k]? = w.heap[k]?) : StoreC G col w' s M H L :=
  ⟨h.tree.kept (fun k q hl => hk k q.1 hl), F2.imp (fun a b q => q.kept (fun k q hl => hk k q.1 hl)) h.ch, Kd.R_step h.hist (fun k q hl => hk k q.1 hl)⟩
theorem StoreC.below (h : StoreC G col w s M H L) (hb : Below w.heap.size w w') : StoreC G col w' s M H L := h.kept (fun k _ hl => hb.block k hl)
/-- the store at block s, its blocks among G -/
def StoreAt (G : Nat → Prop) (w : World) (s : Nat) (M : StM) : Prop := ∃ col H L, StoreC G col w s M H L
theorem StoreAt.turn {G' : Nat → Prop} (h : StoreAt G w s M) (hG : ∀ k, k < w.heap.size → G k → G' k) : StoreAt G' w s M := by
  obtain ⟨col, H, L, h⟩ := h
  exact ⟨col, H, L, h.turn hG (fun _ _ => rfl)⟩
theorem StoreAt.kept (h : StoreAt G w s M) (hk : ∀ k, G k → k < w.heap.size → w'.heap[k]? = w.heap[k]?) : StoreAt G w' s M := by
  obtain ⟨col, H, L, h⟩ := h
  exact ⟨col, H, L, h.kept hk⟩
theorem StoreAt.below (h : StoreAt G w s M) (hb : Below w.heap.size w w') : StoreAt G w' s M := h.kept (fun k _ hl => hb.block k hl)
/-- the four cells -/
theorem StoreC.head (h : StoreC G col w s M H L) : ∃ S, w.heap[s]? = some (.cells #[S, .int .i64 (L.length : Int), .int .i64 M.low, H] 113 (0, 0)) := by
  obtain ⟨S, T, h1, _⟩ := h.tree
  exact ⟨S, h1.head⟩
theorem StoreC.inG (h : StoreC G col w s M H L) : G s := by
  obtain ⟨S, T, h1, _⟩ := h.tree
  exact h1.inF.1
theorem StoreC.lt (h : StoreC G col w s M H L) : s < w.heap.size := h.tree.lt
theorem StoreC.histS (h : StoreC G col w s M H L) : ∃ A c, H = .slice A M.hist.length c ∧ M.hist.length ≤ c ∧ Kd.C k28 w A M.hist.length M.hist := Kd.R_reads h.hist
theorem StoreC.c2 (h : StoreC G col w s M H L) : w.cell? ⟨s, 2, none⟩ = some (.int .i64 M.low) := by
  obtain ⟨S, e⟩ := h.head
  simp [World.cell?, e]
theorem StoreC.c3 (h : StoreC G col w s M H L) : w.cell? ⟨s, 3, none⟩ = some H := by
  obtain ⟨S, e⟩ := h.head
  simp [World.cell?, e]
theorem StoreC.fz (h : StoreC G col w s M H L) (i : Nat) : w.frozen? ⟨s, i, none⟩ = false := by
  obtain ⟨S, e⟩ := h.head
  simp [World.frozen?, e]
theorem StoreC.len (h : StoreC G col w s M H L) : L.length = M.K.length := h.ch.len
set_option maxHeartbeats 1000000 in
theorem last_any (h : StoreC G col w s M H L) (hi : 0 ≤ M.low) (hl : lastM M ≤ maxSeq) : Calls Try.prog 37 #[.pointer (some ⟨s, 0, none⟩)] w fun e w' => e = .returned (.int .i64 (lastM M)) ∧ ∃ n, w' = w.drewN n := by
  obtain ⟨A, c, rfl, _, _⟩ := h.histS
  have c2 := h.c2
  have c3 := h.c3
  unfold lastM maxSeq at *
  have hw : IntKind.i64.wrap (M.low + (M.hist.length : Int)) = M.low + (M.hist.length : Int) := by rw [IntKind.wrap_i64]; omega
  clear h
  go_enter Try.func37, Try.ntmps37
  go_wp2
  go_quiet (fail)
  go_wp2
  go_ret
  exact ⟨rfl, nq, rfl⟩
end Go.Proofs.Ytmafibbnojdpjaa.St
end
section
set_option linter.unusedVariables false
set_option maxRecDepth 100000
set_option linter.unusedSimpArgs false
namespace Go.Proofs.Ytmafibbnojdpjaa.St
open Go.Proofs.Ytmafibbnojdpjaa.Tr Go.RowKit Go.Proofs.YtmafibbnojdpjaaW.PrintWords Go.Proofs.YtmafibbnojdpjaaW.PrintLast Go.Proofs.YtmafibbnojdpjaaW.PrintMore Go.Proofs.Ytmafibbnojdpjaa.P
theorem F2_ins {ok : Nat → Prop} {w : World} {L : List Tr.Item} {K : List KC} (h : F2 (ChAt ok w) L K) (x : ByteArray) {v : Value} {c : List Ver} (hv : Kd.R k118 118 w 0 ok v c) : F2 (ChAt ok w) (ins L x v) (insK K x c) := by
  unfold ins insK Tr.below Tr.above
  refine F2.append (F2.append (h.filter (fun a b hab => by rw [hab.1])) ⟨⟨rfl, hv⟩, trivial⟩) (h.filter (fun a b hab => by rw [hab.1]))
theorem F2_has {ok : Nat → Prop} {w : World} {L : List Tr.Item} {K : List KC} (h : F2 (ChAt ok w) L K) (x : ByteArray) : has L x = (getK K x).isSome := by
  rw [Bool.eq_iff_iff, has_iff]
  constructor
  · rintro ⟨a, ha, rfl⟩
    obtain ⟨b, hb, hab⟩ := h.left a ha
    cases hg : getK K a.1 with
    | some c => rfl
    | none => exact absurd hab.1.symm (getK_none.1 hg b hb)
  · intro hs
    obtain ⟨c, hc⟩ := Option.isSome_iff_exists.1 hs
    obtain ⟨a, ha, hab⟩ := h.right _ (getK_mem hc)
    exact ⟨a, ha, hab.1⟩
/-- a key looked up in a tree -/
theorem get_tree {R : Value × Value} {F : Nat → Prop} {w : World} {g : Nat} {L : List Tr.Item} (h : TreeAt R F w g L) (hb : L.length ≤ maxTree) (x : ByteArray) :
    Calls Try.prog 67 #[.pointer (some ⟨g, 0, none⟩), .string x] w fun e w' => ∃ v, e = .returned (.tuple #[v, .bool (has L x)]) ∧ (has L x = true → (x, v) ∈ L) ∧ (has L x = false → v = .slice none 0 0) ∧ Below w.heap.size w w' := by
  obtain ⟨S, M, hM, hT, hL⟩ := h
  have hs : Small M := small_of hT (by rw [hL]; exact hb)
  obtain ⟨A, c, e, hl⟩ := hM.leaves hs.pos
  have c0 := hM.c0
  rw [e] at c0
  refine (get_any g c A (tl M) x w (by have := hs.len; simp [tl]; omega) hs.lf hl c0).mono ?_
  rintro e w' ⟨rfl, hbl⟩
  have hfl : (tl M).flatten = L := hL
  by_cases hM0 : tl M = []
  · have hL0 : L = [] := by rw [← hfl, hM0]; rfl
    subst hL0
    rw [hM0, show findT [] x = (0, 0, false) from rfl]
    exact ⟨_, rfl, fun h => (by cases h), fun _ => rfl, hbl⟩
  · obtain ⟨f1, f2, _, _, f5, f6⟩ := findT_spec hT hM0 x
    have hh : (findT (tl M) x).2.2 = has L x := by
      rw [Bool.eq_iff_iff, f5, has_iff, hfl]
    cases hx : has L x with
    | false =>
      rw [hx] at hh
      rw [hh]
      exact ⟨_, rfl, fun h => (by cases h), fun _ => rfl, hbl⟩
    | true =>
      rw [hx] at hh
      obtain ⟨g1, g2⟩ := f6 hh
      rw [hh]
      refine ⟨_, rfl, fun _ => ?_, fun h => (by cases h), hbl⟩
      have hm : itm (lf (tl M) (findT (tl M) x).1) (findT (tl M) x).2.1 ∈ L := by
        rw [← hfl, List.mem_flatten]
        exact ⟨_, lf_mem f1, by rw [itm_eq g1]; exact List.getElem_mem _⟩
      have e2 : (x, (itm (lf (tl M) (findT (tl M) x).1) (findT (tl M) x).2.1).2) = itm (lf (tl M) (findT (tl M) x).1) (findT (tl M) x).2.1 := Prod.ext g2.symm rfl
      rw [← e2] at hm
      exact hm
variable {G : Nat → Prop} {col : Nat → Nat} {w w' : World} {s : Nat} {M : StM} {H : Value} {L : List Tr.Item}
/-- a key's chain -/
theorem get_chain (h : StoreC G col w s M H L) (hs : SrtK M.K) (hb : M.K.length ≤ maxTree) (x : ByteArray) :
    Calls Try.prog 67 #[.pointer (some ⟨s, 0, none⟩), .string x] w fun e w' => ∃ v, e = .returned (.tuple #[v, .bool (getK M.K x).isSome]) ∧ Kd.R k118 118 w 0 (Hue G col 1) v (chainK M.K x) ∧ Below w.heap.size w w' := by
  refine (get_tree h.tree (by rw [h.len]; exact hb) x).mono ?_
  rintro e w' ⟨v, rfl, h1, h2, h3⟩
  rw [F2_has h.ch x] at h1 h2 ⊢
  refine ⟨v, rfl, ?_, h3⟩
  unfold chainK
  cases hg : getK M.K x with
  | none =>
    rw [hg] at h2
    rw [h2 rfl]
    exact Kd.R_nil _ _ _ _ _
  | some c =>
    rw [hg] at h1
    obtain ⟨b, hb, hab⟩ := h.ch.left _ (h1 rfl)
    have e1 : b.1 = x := hab.1.symm
    have := getK_some hs hb
    rw [e1, hg] at this
    cases this
    exact hab.2
theorem Fr.other {F : Nat → Prop} {ok : Nat → Prop} (hf : Fr F w w') (hd : ∀ k, ok k → ¬ F k) : ∀ k, ok k → k < w.heap.size → w'.heap[k]? = w.heap[k]? := fun k hk hl => hf.block k hl (hd k hk)
theorem hue_ne {c d : Nat} (hcd : c ≠ d) (k : Nat) (h : Hue G col c k) : ¬ Hue G col d k := fun q => hcd (h.2.symm.trans q.2)
theorem put_chain (h : StoreC G col w s M H L) (hG : ∀ k, w.heap.size ≤ k → G k) (hcol : ∀ k, w.heap.size ≤ k → col k = 0) (hb : M.K.length ≤ maxTree) (x : ByteArray) (y : SVal) {c : List Ver} (hv : Kd.R k118 118 w 0 (Hue G col 1) (SV y) c) :
    Calls Try.prog 65 #[.pointer (some ⟨s, 0, none⟩), .string x, SV y] w fun e w' => e = .returned (.bool (has L x)) ∧ StoreC G col w' s ⟨M.low, M.hist, insK M.K x c⟩ H (ins L x (SV y)) ∧ Fr (Hue G col 0) w w' := by
  refine (put_any h.tree (fun k hk => ⟨hG k hk, hcol k hk⟩) (by rw [h.len]; exact hb) x y).mono ?_
  rintro e w' ⟨rfl, ht, hf⟩
  refine ⟨rfl, ⟨ht, ?_, ?_⟩, hf⟩
  · exact F2_ins (F2.imp (fun a b q => q.kept (Fr.other hf (hue_ne (by decide)))) h.ch) x (Kd.R_step hv (Fr.other hf (hue_ne (by decide))))
  · exact Kd.R_step h.hist (Fr.other hf (hue_ne (by decide)))
/-- the cell of the commits is stored into -/
theorem TreeAt.setRest {lo H H' : Value} {F : Nat → Prop} {w : World} {g : Nat} {L : List Tr.Item} (h : TreeAt (lo, H) F w g L) : TreeAt (lo, H') F (w.setCell ⟨g, 3, none⟩ H') g L := by
  obtain ⟨S, T, h1, h2⟩ := h
  refine ⟨S, T, ?_, h2⟩
  exact { head := (by rw [heap_setCell_at w g 3 _ _ _ _ h1.head]; rfl), inF := h1.inF, row := ownsRow_same h1.row (fun k e => Below.heap_setCell w _ _ k (h1.apart k e).2.1), apart := h1.apart, leaf := fun m hm => (h1.leaf m hm).same (Below.heap_setCell w _ _ _ (h1.leaf m hm).neg), nodup := h1.nodup }
theorem StoreC.ne (h : StoreC G col w s M H L) : col s = 0 := by
  obtain ⟨S, T, h1, _⟩ := h.tree
  exact h1.inF.2
end Go.Proofs.Ytmafibbnojdpjaa.St
end
section
set_option linter.unusedVariables false
set_option maxRecDepth 100000
set_option linter.unusedSimpArgs false
namespace Go.Proofs.Ytmafibbnojdpjaa.St
open Go.Proofs.Ytmafibbnojdpjaa.Tr Go.RowKit Go.Proofs.YtmafibbnojdpjaaW.PrintWords Go.Proofs.YtmafibbnojdpjaaW.PrintLast Go.Proofs.YtmafibbnojdpjaaW.PrintMore Go.Proofs.Ytmafibbnojdpjaa.P
variable {G : Nat → Prop} {col : Nat → Nat} {w w' : World} {s : Nat} {M : StM} {H : Value} {L : List Tr.Item}
/-- the three cells of a block -/
def Three (B : Nat) (x y z : Value) (W : World) : Prop := W.cell? ⟨B, 0, none⟩ = some x ∧ W.cell? ⟨B, 1, none⟩ = some y ∧ W.cell? ⟨B, 2, none⟩ = some z
theorem Three.up {B : Nat} {x y z : Value} {W W' : World} (h : Three B x y z W) (hb : Below W.heap.size W W') : Three B x y z W' := ⟨Tr.up hb h.1, Tr.up hb h.2.1, Tr.up hb h.2.2⟩
theorem Three.on {B : Nat} {x y z : Value} {W W' : World} (hb : Below W.heap.size W W') (h : Three B x y z W) : Three B x y z W' := h.up hb
theorem three_new (w : World) (t : TypeId) (x y z : Value) : Three w.heap.size x y z (w.alloc (.cells #[x, y, z] t)) := by
  have hh := heap_alloc_new w (.cells #[x, y, z] t)
  exact ⟨(cell_of_row _ _ _ _ _ _ hh).trans rfl, (cell_of_row _ _ _ _ _ _ hh).trans rfl, (cell_of_row _ _ _ _ _ _ hh).trans rfl⟩
theorem cm_last {h : List Cm} {w : World} {A : Option Addr} (hC : Kd.C k28 w A h.length h) (hl : 0 < h.length) : ∃ ad, A = some ad ∧ w.cell? ⟨(ad.add ((h.length - 1) * 3)).block, (ad.add ((h.length - 1) * 3)).off + 1, none⟩ = some (.int .i64 (lastAt h)) := by
  obtain ⟨ad, A2, c2, e, _, h1, _⟩ := at_T28 hC ((h.length - 1 : Nat) : Int) (by omega) (by omega)
  refine ⟨ad, e, ?_⟩
  have e2 : (rd_T28 h ((h.length - 1 : Nat) : Int)).f1 = lastAt h := by
    unfold lastAt
    rw [dif_neg (by omega)]
    simp [rd_T28, List.getD, List.getElem?_eq_getElem (show h.length - 1 < h.length by omega)]
  rw [e2] at h1
  simpa using h1
set_option maxHeartbeats 2000000 in
theorem com_seq (h : StoreC G col w s M H L) (hi : 0 ≤ M.low) (hl : lastM M ≤ maxSeq) (q t : Int) (v : Value) (hq : ¬ q = lastM M + 1) :
    Calls Try.prog 36 #[.pointer (some ⟨s, 0, none⟩), .agg #[.int .i64 q, .int .i64 t, v]] w fun e w' => e = .returned (.int .i64 1) ∧ Below w.heap.size w w' := by
  have HLA : Aside0 (∀ W, Below w.heap.size w W → Calls Try.prog 37 #[.pointer (some ⟨s, 0, none⟩)] W fun e w' => e = .returned (.int .i64 (lastM M)) ∧ ∃ n, w' = W.drewN n) := ⟨fun W hW => last_any (h.below hW) hi hl⟩
  have hla : 0 ≤ lastM M := by unfold lastM; omega
  clear h hi
  unfold maxSeq at *
  generalize lastM M = la at *
  have hw : IntKind.i64.wrap (la + 1) = la + 1 := by rw [IntKind.wrap_i64]; omega
  have hqb : (q == la + 1) = false := by simpa using hq
  have hqn : (q != la + 1) = true := by simpa using hq
  clear hl hla
  go_enter Try.func36, Try.ntmps36
  go_wp2
  go_quiet ((go_at_call 37; exact Calls.quiet_of (HLA.out _ (by repeat (first | apply below_alloc | apply pw_below_drewN | apply below_drew1 | exact Below.refl _ _)))))
  go_wp2
  go_ret
  exact ⟨rfl, (by repeat (first | apply below_alloc | apply pw_below_drewN | apply below_drew1 | exact Below.refl _ _))⟩
set_option maxHeartbeats 2000000 in
theorem com_max (h : StoreC G col w s M H L) (hi : 0 ≤ M.low) (hl : lastM M ≤ maxSeq) (q t : Int) (v : Value) (hq : q = lastM M + 1) (hm : maxSeq < q) :
    Calls Try.prog 36 #[.pointer (some ⟨s, 0, none⟩), .agg #[.int .i64 q, .int .i64 t, v]] w fun e w' => e = .returned (.int .i64 1) ∧ Below w.heap.size w w' := by
  have HLA : Aside0 (∀ W, Below w.heap.size w W → Calls Try.prog 37 #[.pointer (some ⟨s, 0, none⟩)] W fun e w' => e = .returned (.int .i64 (lastM M)) ∧ ∃ n, w' = W.drewN n) := ⟨fun W hW => last_any (h.below hW) hi hl⟩
  have hla : 0 ≤ lastM M := by unfold lastM; omega
  clear h hi
  unfold maxSeq at *
  generalize lastM M = la at *
  have hw : IntKind.i64.wrap (la + 1) = la + 1 := by rw [IntKind.wrap_i64]; omega
  have d0 : (la + 1 != la + 1) = false := by simp
  have d1 : decide ((1099511627776 : Int) < la + 1) = true := decide_eq_true (by omega)
  subst hq
  clear hm
  clear hl hla
  go_enter Try.func36, Try.ntmps36
  go_wp2
  go_quiet ((go_at_call 37; exact Calls.quiet_of (HLA.out _ (by repeat (first | apply below_alloc | apply pw_below_drewN | apply below_drew1 | exact Below.refl _ _)))))
  go_wp2
  go_ret
  exact ⟨rfl, (by repeat (first | apply below_alloc | apply pw_below_drewN | apply below_drew1 | exact Below.refl _ _))⟩
set_option maxHeartbeats 2000000 in
theorem com_neg (h : StoreC G col w s M H L) (hi : 0 ≤ M.low) (hl : lastM M ≤ maxSeq) (q t : Int) (v : Value) (hq : q = lastM M + 1) (hm : q ≤ maxSeq) (ht : t < 0) :
    Calls Try.prog 36 #[.pointer (some ⟨s, 0, none⟩), .agg #[.int .i64 q, .int .i64 t, v]] w fun e w' => e = .returned (.int .i64 1) ∧ Below w.heap.size w w' := by
  have HLA : Aside0 (∀ W, Below w.heap.size w W → Calls Try.prog 37 #[.pointer (some ⟨s, 0, none⟩)] W fun e w' => e = .returned (.int .i64 (lastM M)) ∧ ∃ n, w' = W.drewN n) := ⟨fun W hW => last_any (h.below hW) hi hl⟩
  have hla : 0 ≤ lastM M := by unfold lastM; omega
  clear h hi
  unfold maxSeq at *
  generalize lastM M = la at *
  have hw : IntKind.i64.wrap (la + 1) = la + 1 := by rw [IntKind.wrap_i64]; omega
  have d0 : (la + 1 != la + 1) = false := by simp
  have d1 : decide ((1099511627776 : Int) < la + 1) = false := decide_eq_false (by omega)
  have d2 : decide (t < (0 : Int)) = true := decide_eq_true (by omega)
  subst hq
  clear hm ht
  clear hl hla
  go_enter Try.func36, Try.ntmps36
  go_wp2
  go_quiet ((go_at_call 37; exact Calls.quiet_of (HLA.out _ (by repeat (first | apply below_alloc | apply pw_below_drewN | apply below_drew1 | exact Below.refl _ _)))))
  go_wp2
  go_ret
  exact ⟨rfl, (by repeat (first | apply below_alloc | apply pw_below_drewN | apply below_drew1 | exact Below.refl _ _))⟩
set_option maxHeartbeats 2000000 in
theorem com_time (h : StoreC G col w s M H L) (hi : 0 ≤ M.low) (hl : lastM M ≤ maxSeq) (q t : Int) (v : Value) (hq : q = lastM M + 1) (hm : q ≤ maxSeq) (ht : 0 ≤ t) (hx : maxSeq < t) :
    Calls Try.prog 36 #[.pointer (some ⟨s, 0, none⟩), .agg #[.int .i64 q, .int .i64 t, v]] w fun e w' => e = .returned (.int .i64 1) ∧ Below w.heap.size w w' := by
  have HLA : Aside0 (∀ W, Below w.heap.size w W → Calls Try.prog 37 #[.pointer (some ⟨s, 0, none⟩)] W fun e w' => e = .returned (.int .i64 (lastM M)) ∧ ∃ n, w' = W.drewN n) := ⟨fun W hW => last_any (h.below hW) hi hl⟩
  have hla : 0 ≤ lastM M := by unfold lastM; omega
  clear h hi
  unfold maxSeq at *
  generalize lastM M = la at *
  have hw : IntKind.i64.wrap (la + 1) = la + 1 := by rw [IntKind.wrap_i64]; omega
  have d0 : (la + 1 != la + 1) = false := by simp
  have d1 : decide ((1099511627776 : Int) < la + 1) = false := decide_eq_false (by omega)
  have d2 : decide (t < (0 : Int)) = false := decide_eq_false (by omega)
  have d3 : decide ((1099511627776 : Int) < t) = true := decide_eq_true (by omega)
  subst hq
  clear hm ht hx
  clear hl hla
  go_enter Try.func36, Try.ntmps36
  go_wp2
  go_quiet ((go_at_call 37; exact Calls.quiet_of (HLA.out _ (by repeat (first | apply below_alloc | apply pw_below_drewN | apply below_drew1 | exact Below.refl _ _)))))
  go_wp2
  go_ret
  exact ⟨rfl, (by repeat (first | apply below_alloc | apply pw_below_drewN | apply below_drew1 | exact Below.refl _ _))⟩
end Go.Proofs.Ytmafibbnojdpjaa.St
end
section
set_option linter.unusedVariables false
set_option maxRecDepth 100000
set_option linter.unusedSimpArgs false
namespace Go.Proofs.Ytmafibbnojdpjaa.St
open Go.Proofs.Ytmafibbnojdpjaa.Tr Go.RowKit Go.Proofs.YtmafibbnojdpjaaW.PrintWords Go.Proofs.YtmafibbnojdpjaaW.PrintLast Go.Proofs.YtmafibbnojdpjaaW.PrintMore Go.Proofs.Ytmafibbnojdpjaa.P
variable {G : Nat → Prop} {col : Nat → Nat} {w w' : World} {s : Nat} {M : StM} {H : Value} {L : List Tr.Item}
set_option maxHeartbeats 4000000 in
theorem com_right (h : StoreC G col w s M H L) (hi : 0 ≤ M.low) (hl : lastM M ≤ maxSeq) (c : Cm) (A : Option Addr) (cap : Nat) (hr : Kd.C k31 w A c.f2.length c.f2) (hc : c.f2.length ≤ cap) (hn : c.f2.length < 4611686018427387904) (hq : c.f0 = lastM M + 1) (h1 : c.f0 ≤ maxSeq) (h2 : 0 ≤ c.f1) (h3 : c.f1 ≤ maxSeq) (h4 : rightW c.f2 = false) :
    Calls Try.prog 36 #[.pointer (some ⟨s, 0, none⟩), .agg #[.int .i64 c.f0, .int .i64 c.f1, .slice A c.f2.length cap]] w fun e w' => e = .returned (.int .i64 1) ∧ Below w.heap.size w w' := by
  have HLA : Aside0 (∀ W, Below w.heap.size w W → Calls Try.prog 37 #[.pointer (some ⟨s, 0, none⟩)] W fun e w' => e = .returned (.int .i64 (lastM M)) ∧ ∃ n, w' = W.drewN n) := ⟨fun W hW => last_any (h.below hW) hi hl⟩
  have HRA : Aside0 (∀ W, Below w.heap.size w W → Calls Try.prog 38 #[.slice A c.f2.length cap] W fun e w' => e = .returned (.bool (rightW c.f2)) ∧ Below W.heap.size W w') := ⟨fun W hW => right_any c.f2 A cap W (Kd.C_below hr hW) hc hn⟩
  have hla : 0 ≤ lastM M := by unfold lastM; omega
  clear h hr
  rw [h4] at HRA
  unfold maxSeq at *
  generalize lastM M = la at *
  have hw : IntKind.i64.wrap (la + 1) = la + 1 := by rw [IntKind.wrap_i64]; omega
  have d0 : (la + 1 != la + 1) = false := by simp
  have d1 : decide ((1099511627776 : Int) < la + 1) = false := decide_eq_false (by omega)
  have d2 : decide (c.f1 < (0 : Int)) = false := decide_eq_false (by omega)
  have d3 : decide ((1099511627776 : Int) < c.f1) = false := decide_eq_false (by omega)
  rw [hq]
  clear h1 h2 h3 h4 hl hla hi hq
  have S0 : Three w.heap.size (.int .i64 (la + 1)) (.int .i64 c.f1) (.slice A c.f2.length cap) (w.alloc (.cells #[.int .i64 (la + 1), .int .i64 c.f1, .slice A c.f2.length cap] 28)).drew := (three_new w 28 _ _ _).up (below_drew1 (Below.refl _ _))
  go_enter Try.func36, Try.ntmps36
  go_wp2
  go_region_held3 (fun W : World => W.cell? ⟨w.heap.size, 0, none⟩ = some (.int .i64 (la + 1)) ∧ W.cell? ⟨w.heap.size, 1, none⟩ = some (.int .i64 c.f1) ∧ W.cell? ⟨w.heap.size, 2, none⟩ = some (.slice A c.f2.length cap)) (first | exact S0 | exact S2 | exact S1) (first
    | (go_at_call 37; refine (HLA.out _ (by repeat (first | apply below_alloc | apply pw_below_drewN | apply below_drew1 | exact Below.refl _ _))).mono ?_; rintro e w1 ⟨rfl, nq, rfl⟩; have S1 := Three.on (pw_below_drewN (Below.refl _ _) nq) S0)
    | (go_at_call 38; refine (HRA.out _ (by repeat (first | apply below_alloc | apply pw_below_drewN | apply below_drew1 | exact Below.refl _ _))).mono ?_; rintro e w2 ⟨rfl, hb⟩; have S2 := Three.on hb S1; have HB2 : Aside0 (Below w.heap.size w w2) := ⟨below_step (by repeat (first | apply below_alloc | apply pw_below_drewN | apply below_drew1 | exact Below.refl _ _)) hb⟩; clear hb))
  go_wp2
  go_ret
  exact ⟨rfl, HB2.out⟩
set_option maxHeartbeats 4000000 in
theorem com_back (h : StoreC G col w s M H L) (hi : 0 ≤ M.low) (hl : lastM M ≤ maxSeq) (c : Cm) (A : Option Addr) (cap : Nat) (hr : Kd.C k31 w A c.f2.length c.f2) (hc : c.f2.length ≤ cap) (hn : c.f2.length < 4611686018427387904) (hq : c.f0 = lastM M + 1) (h1 : c.f0 ≤ maxSeq) (h2 : 0 ≤ c.f1) (h3 : c.f1 ≤ maxSeq) (h4 : rightW c.f2 = true) (h5 : 0 < M.hist.length) (h6 : c.f1 < lastAt M.hist) :
    Calls Try.prog 36 #[.pointer (some ⟨s, 0, none⟩), .agg #[.int .i64 c.f0, .int .i64 c.f1, .slice A c.f2.length cap]] w fun e w' => e = .returned (.int .i64 1) ∧ Below w.heap.size w w' := by
  have HLA : Aside0 (∀ W, Below w.heap.size w W → Calls Try.prog 37 #[.pointer (some ⟨s, 0, none⟩)] W fun e w' => e = .returned (.int .i64 (lastM M)) ∧ ∃ n, w' = W.drewN n) := ⟨fun W hW => last_any (h.below hW) hi hl⟩
  have HRA : Aside0 (∀ W, Below w.heap.size w W → Calls Try.prog 38 #[.slice A c.f2.length cap] W fun e w' => e = .returned (.bool (rightW c.f2)) ∧ Below W.heap.size W w') := ⟨fun W hW => right_any c.f2 A cap W (Kd.C_below hr hW) hc hn⟩
  have hla : 0 ≤ lastM M := by unfold lastM; omega
  obtain ⟨AH, cH, rfl, hcH, hCH⟩ := h.histS
  obtain ⟨ad, rfl, hla1⟩ := cm_last hCH h5
  have hc3 := h.c3
  have hlen : M.hist.length < 4611686018427387904 := by unfold lastM maxSeq at hl; omega
  clear h hr hCH
  rw [h4] at HRA
  unfold maxSeq at *
  generalize lastM M = la at *
  have hw : IntKind.i64.wrap (la + 1) = la + 1 := by rw [IntKind.wrap_i64]; omega
  have d0 : (la + 1 != la + 1) = false := by simp
  have d1 : decide ((1099511627776 : Int) < la + 1) = false := decide_eq_false (by omega)
  have d2 : decide (c.f1 < (0 : Int)) = false := decide_eq_false (by omega)
  have d3 : decide ((1099511627776 : Int) < c.f1) = false := decide_eq_false (by omega)
  rw [hq]
  generalize lastAt M.hist = lt at *
  generalize M.hist.length = nh at *
  have e1 : decide ((0 : Int) < (nh : Int)) = true := decide_eq_true (by omega)
  have e2 : decide (c.f1 < lt) = true := decide_eq_true h6
  have e3 : IntKind.i64.wrap ((nh : Int) - 1) = ((nh - 1 : Nat) : Int) := by rw [IntKind.wrap_i64]; omega
  have e4 : (0 : Int) ≤ ((nh - 1 : Nat) : Int) := by omega
  have e5 : ((nh - 1 : Nat) : Int) < (nh : Int) := by omega
  clear h1 h2 h3 h4 hl hla hi hq h6
  have S0 : Three w.heap.size (.int .i64 (la + 1)) (.int .i64 c.f1) (.slice A c.f2.length cap) (w.alloc (.cells #[.int .i64 (la + 1), .int .i64 c.f1, .slice A c.f2.length cap] 28)).drew := (three_new w 28 _ _ _).up (below_drew1 (Below.refl _ _))
  go_enter Try.func36, Try.ntmps36
  go_wp2
  go_region_held3 (fun W : World => W.cell? ⟨w.heap.size, 0, none⟩ = some (.int .i64 (la + 1)) ∧ W.cell? ⟨w.heap.size, 1, none⟩ = some (.int .i64 c.f1) ∧ W.cell? ⟨w.heap.size, 2, none⟩ = some (.slice A c.f2.length cap)) (first | exact S0 | exact S2 | exact S1) (first
    | (go_at_call 37; refine (HLA.out _ (by repeat (first | apply below_alloc | apply pw_below_drewN | apply below_drew1 | exact Below.refl _ _))).mono ?_; rintro e w1 ⟨rfl, nq, rfl⟩; have S1 := Three.on (pw_below_drewN (Below.refl _ _) nq) S0)
    | (go_at_call 38; refine (HRA.out _ (by repeat (first | apply below_alloc | apply pw_below_drewN | apply below_drew1 | exact Below.refl _ _))).mono ?_; rintro e w2 ⟨rfl, hb⟩; have S2 := Three.on hb S1; have HB2 : Aside0 (Below w.heap.size w w2) := ⟨below_step (by repeat (first | apply below_alloc | apply pw_below_drewN | apply below_drew1 | exact Below.refl _ _)) hb⟩; clear hb))
  go_wp2
  have c3 := up HB2.out hc3
  have l1 := up HB2.out hla1
  go_quiet (fail)
  go_wp2
  go_ret
  exact ⟨rfl, pw_below_drewN HB2.out _⟩
end Go.Proofs.Ytmafibbnojdpjaa.St
end
section
set_option linter.unusedVariables false
set_option maxRecDepth 100000
set_option linter.unusedSimpArgs false
namespace Go.Proofs.Ytmafibbnojdpjaa.St
open Go.Proofs.Ytmafibbnojdpjaa.Tr Go.RowKit Go.Proofs.YtmafibbnojdpjaaW.PrintWords Go.Proofs.YtmafibbnojdpjaaW.PrintLast Go.Proofs.YtmafibbnojdpjaaW.PrintMore Go.Proofs.Ytmafibbnojdpjaa.P
variable {G : Nat → Prop} {col : Nat → Nat} {w w' : World} {s : Nat} {M : StM} {H : Value} {L : List Tr.Item}
theorem info28 : (Try.prog.info? 28).map (fun i => (i.zero, i.size, i.bytes)) = some (some (.agg #[.int .i64 0, .int .i64 0, .slice none 0 0]), 3, 40) := by kernel_rfl
theorem three_set {B : Nat} {x y z : Value} {W : World} (hh : W.heap[B]? = some (.cells #[x, y, z] 28 (0, 0))) (z' : Value) : Three B x y z' (W.setCell ⟨B, 2, none⟩ z') := by
  have h2 := heap_setCell_at W B 2 _ _ _ z' hh
  exact ⟨(cell_of_row _ _ _ _ _ _ h2).trans rfl, (cell_of_row _ _ _ _ _ _ h2).trans rfl, (cell_of_row _ _ _ _ _ _ h2).trans rfl⟩
theorem Three.kept {B : Nat} {x y z : Value} {W W' : World} (h : Three B x y z W) (hk : W'.heap[B]? = W.heap[B]?) : Three B x y z W' := ⟨(World.cell?_of_block hk).trans h.1, (World.cell?_of_block hk).trans h.2.1, (World.cell?_of_block hk).trans h.2.2⟩
theorem Three.lt {B : Nat} {x y z : Value} {W : World} (h : Three B x y z W) : B < W.heap.size := World.block_lt_of_cell? W _ h.1
/-- the colours while a commit is taken in: the box is 3, what is new is 2 -/
def colB (col : Nat → Nat) (n : Nat) (k : Nat) : Nat := if k < n then col k else if k = n then 3 else 2
theorem colB_old {n k : Nat} (h : k < n) : colB col n k = col k := by unfold colB; rw [if_pos h]
theorem colB_new {n k : Nat} (h : n < k) : colB col n k = 2 := by unfold colB; rw [if_neg (by omega), if_neg (by omega)]
theorem colB_box (n : Nat) : colB col n n = 3 := by unfold colB; rw [if_neg (by omega), if_pos rfl]
theorem sc_box (h : StoreC G col w s M H L) {W : World} (hb : Below w.heap.size w W) : StoreC G (colB col w.heap.size) W s M H L := (h.turn (fun _ _ q => q) (fun k hk => colB_old hk)).below hb
theorem StoreC.own (h : StoreC G col w s M H L) (k : Nat) (hk : H.ownBlock = some k) : k < w.heap.size ∧ Hue G col 2 k := by
  obtain ⟨h1, inner, ho, _⟩ := h.hist
  exact ⟨(ho.lt k hk).2, h1 k hk⟩
/-- the row of the commits has grown -/
theorem sc_append {W : World} (h : StoreC G col W s M H L) {w7 : World} {v1 : Value} {hist' : List Cm} (g1 : Kd.R k28 28 w7 0 (Hue G col 2) v1 hist') (g3 : W.grownBy w7 H.ownBlock) :
    StoreC G col (w7.setCell ⟨s, 3, none⟩ v1) s ⟨M.low, hist', M.K⟩ v1 L ∧ w7.cell? ⟨s, 3, none⟩ = some H ∧ w7.frozen? ⟨s, 3, none⟩ = false := by
  have hne : ∀ c, c ≠ 2 → ∀ k, Hue G col c k → k < W.heap.size → w7.heap[k]? = W.heap[k]? := fun c hc k hk hl => g3.block k hl (fun e => hc (by rw [← hk.2, ← (h.own k e.symm).2.2]))
  have hs : Hue G col 0 s := ⟨h.inG, h.ne⟩
  have h7 : StoreC G col w7 s ⟨M.low, M.hist, M.K⟩ H L → True := fun _ => trivial
  have hsb := hne 0 (by decide) s hs h.lt
  have tr : TreeAt (.int .i64 M.low, H) (Hue G col 0) w7 s L := h.tree.kept (hne 0 (by decide))
  have hk : ∀ c, c ≠ 0 → ∀ k, Hue G col c k → k < w7.heap.size → (w7.setCell ⟨s, 3, none⟩ v1).heap[k]? = w7.heap[k]? := fun c hc k hk hl => Below.heap_setCell w7 _ _ k (fun e => hc (by rw [← hk.2, ← h.ne]; exact congrArg col e))
  refine ⟨⟨TreeAt.setRest tr, F2.imp (fun a b q => (q.kept (hne 1 (by decide))).kept (hk 1 (by decide))) h.ch, Kd.R_step g1 (hk 2 (by decide))⟩, ?_, ?_⟩
  · exact (World.cell?_of_block hsb).trans h.c3
  · exact (World.frozen?_of_block hsb).trans (h.fz 3)
/-- append of one element, in whatever form the world stands -/
theorem R_append_at {P : Program} {ops : Array Oper} {o : Oper} {a : Act} {Q : Exit → Act → World → Prop} {Kc : Act → World → Prop} {α : Type} (d : Kd α) {W V : World} (e : TypeId) (cs : List Value) (hV : V = W.alloc (.cells cs.toArray e)) (base : Nat) (hw : Region.wanted o (yielded ops a.tmps) = true) (s x : Operand) (t : TypeId) (z : Value) (bytes : Nat)
    (ho : o.op = .call { callee := .builtin .append, args := #[s, x], argTypes := #[t, t] })
    (ht : P.underlying t = some (.slice e)) (hinfo : (P.info? e).map (fun i => (i.zero, i.size, i.bytes)) = some (some z, d.sz, bytes)) (hz : z.cells.size = d.sz) (hs0 : 0 < d.sz) (hb0 : 0 < bytes)
    (v : Value) (xs : List α) (p : α) (ok okp : Nat → Prop) (hs : a.eval s = v) (hx : a.eval x = .slice (some ⟨W.heap.size, 0, none⟩) 1 1) (hp : d.M W base okp p cs) (hokp : ∀ k, okp k → ok k ∧ some k ≠ v.ownBlock) (hfresh : ∀ k, W.heap.size ≤ k → ok k)
    (HO : d.R e W base ok v xs) (hbase : base ≤ W.heap.size) (hl : (xs.length + 1) * bytes ≤ 140737488355328)
    (h : ∀ v1 w1, d.R e w1 base ok v1 (xs ++ [p]) → W.grownBy w1 v.ownBlock → Kc (a.put o.dst v1) w1) :
    if Region.wanted o (yielded ops a.tmps) = true then Oper.wp P o a V Kc Q else Kc (a.put o.dst undef) V := by
  subst hV
  exact Kd.R_append_step d (w0 := W) base hw s x t e z bytes ho ht hinfo hz hs0 hb0 v xs p cs ok okp hs hx hp hokp hfresh HO ((Below.refl _ _).mono hbase) hbase hl (fun v1 w1 h1 _ h3 _ => h v1 w1 h1 h3)
/-- the store while a commit's writes are taken in -/
structure Com (G : Nat → Prop) (w wq : World) (col : Nat → Nat) (s : Nat) (M : StM) (c : Cm) (v : Value) (i : Nat) : Prop where
  sc : ∃ H L, StoreC G col wq s ⟨M.low, M.hist ++ [c], putAll c.f0 M.K (c.f2.take i)⟩ H L
  box : Three w.heap.size (.int .i64 c.f0) (.int .i64 c.f1) v wq
  hue : col w.heap.size = 3
  ws : Kd.R k31 31 wq 0 (Hue G col 2) v c.f2
  fr : Fr G w wq
theorem Fr.row {F : Nat → Prop} {w w' : World} {r : Option Nat} (hg : w.grownBy w' r) (hr : ∀ k, r = some k → F k) : Fr F w w' := ⟨hg.os, hg.tape, hg.output, hg.size, fun k hk hn => hg.block k hk (fun e => hn (hr k e.symm))⟩
theorem com_start (h : StoreC G col w s M H L) (hG : ∀ k, w.heap.size ≤ k → G k) {c : Cm} {W5 w7 : World} {v v1 : Value} (hb5 : Below w.heap.size w W5)
    (hv5 : Kd.R k31 31 W5 0 (fun k => Hue G (colB col w.heap.size) 2 k ∧ w.heap.size < k) v c.f2) (g3 : W5.drew.grownBy w7 H.ownBlock)
    (k1 : StoreC G (colB col w.heap.size) (w7.setCell ⟨s, 3, none⟩ v1) s ⟨M.low, M.hist ++ [c], M.K⟩ v1 L) (s8 : Three w.heap.size (.int .i64 c.f0) (.int .i64 c.f1) v (w7.setCell ⟨s, 3, none⟩ v1)) :
    Com G w (w7.setCell ⟨s, 3, none⟩ v1) (colB col w.heap.size) s M c v 0 := by
  have hsl := h.lt
  refine ⟨⟨_, _, k1⟩, s8, colB_box _, ?_, ?_⟩
  · refine Kd.R_far (p := ⟨s, 3, none⟩) (ok := Hue G (colB col w.heap.size) 2) (Kd.R_mono (Kd.R_grown (Kd.R_below hv5 (below_drew1 (Below.refl _ _))) g3 (fun k hk e => ?_)) (fun k hk => hk.1)) (fun k hk e => ?_) v1
    · have := (h.own k e.symm).1
      have := hk.2
      omega
    · have h1 : colB col w.heap.size s = 0 := by rw [colB_old hsl]; exact h.ne
      have h2 := hk.2
      rw [show k = s from e, h1] at h2
      cases h2
  · refine (((Fr.below hb5).trans (Fr.drew _)).trans (Fr.row g3 (fun k e => (h.own k e).2.1))).trans (Fr.setCell _ _ _ _ h.inG)
variable {wr : World} {c : Cm} {v : Value} {i : Nat}
theorem Com.lt (h : Com G w wr col s M c v i) : w.heap.size < wr.heap.size := h.box.lt
theorem com_get (h : Com G w wr col s M c v i) (hinv : Inv M) (hws : c.f2.Pairwise fun a b => kl a.f0 b.f0) (hsz : M.K.length ≤ 1000000 ∧ c.f2.length ≤ 200) (hi : i < c.f2.length) (W : World) (hb : Below wr.heap.size wr W) :
    Calls Try.prog 67 #[.pointer (some ⟨s, 0, none⟩), .string (wA c.f2 i).f0] W fun e w' => ∃ A n b, e = .returned (.tuple #[.slice A (chainK M.K (wA c.f2 i).f0).length n, .bool b]) ∧ (chainK M.K (wA c.f2 i).f0).length ≤ n ∧ Kd.C k118 w' A (chainK M.K (wA c.f2 i).f0).length (chainK M.K (wA c.f2 i).f0) ∧ Below W.heap.size W w' := by
  obtain ⟨H, L, hsc⟩ := h.sc
  have hl := putAll_length (s := c.f0) (c.f2.take i) M.K
  rw [List.length_take] at hl
  refine (get_chain (hsc.below hb) (srtK_putAll _ _ _ hinv.srt) (by unfold maxTree; show (putAll c.f0 M.K (c.f2.take i)).length ≤ _; omega) (wA c.f2 i).f0).mono ?_
  rintro e w' ⟨v', rfl, hr, hb'⟩
  rw [show chainK (⟨M.low, M.hist ++ [c], putAll c.f0 M.K (c.f2.take i)⟩ : StM).K (wA c.f2 i).f0 = chainK M.K (wA c.f2 i).f0 from chain_next hinv.srt hws hi] at hr
  obtain ⟨A, n, rfl, h1, h2⟩ := Kd.R_reads hr
  exact ⟨A, n, _, rfl, h1, Kd.C_below h2 hb', hb'⟩
theorem ch_len {t : Int} {ch : List Ver} (h : ChOk t ch) : ∀ (_ : -1 ≤ t), (ch.length : Int) ≤ t + 1 := by
  intro ht
  have key : ∀ (l : List Ver) (lo : Int), l.Pairwise (fun a b => a.f0 < b.f0) → (∀ x ∈ l, lo ≤ x.f0) → (∀ x ∈ l, x.f0 ≤ t) → lo ≤ t + 1 → (l.length : Int) + lo ≤ t + 1 := by
    intro l
    induction l with
    | nil => intro lo _ _ _ h; simpa using h
    | cons a l ih =>
      intro lo hp hlo hhi _
      obtain ⟨h1, h2⟩ := List.pairwise_cons.1 hp
      have ha := hlo a (List.mem_cons_self ..)
      have hat := hhi a (List.mem_cons_self ..)
      have := ih (lo + 1) h2 (fun x hx => by have := h1 x hx; omega) (fun x hx => hhi x (List.mem_cons_of_mem _ hx)) (by omega)
      rw [List.length_cons]
      omega
  have := key ch 0 h.up h.low h.top (by omega)
  omega
theorem ver_ok {x : Wr} (h : okW x = true) : (x.f2 && x.f1.toList != []) = false := by
  unfold okW at h
  cases hg : x.f2 with
  | false => rfl
  | true =>
    rw [hg] at h
    simp only [Bool.and_eq_true, Bool.true_and, Bool.not_eq_true', decide_eq_false_iff_not, Decidable.not_not] at h
    have := toList_nil.2 h.2
    rw [this]
    rfl
theorem com_chain {M : StM} (hinv : Inv M) {c : Cm} (hq : c.f0 = lastM M + 1) (hm : c.f0 ≤ maxSeq) (hri : rightW c.f2 = true) {i : Nat} (hi : i < c.f2.length) {A : Option Addr} {n : Nat} (hn : (chainK M.K (wA c.f2 i).f0).length ≤ n) (W : World) (hC : Kd.C k118 W A (chainK M.K (wA c.f2 i).f0).length (chainK M.K (wA c.f2 i).f0)) :
    Calls Try.prog 68 #[.slice A (chainK M.K (wA c.f2 i).f0).length n, .agg #[.int .i64 c.f0, .string (wA c.f2 i).f1, .bool (wA c.f2 i).f2]] W fun e w' => ∃ y : SVal, e = .returned (.tuple #[SV y, .int .i64 0]) ∧ Kd.R k118 118 w' W.heap.size (fun _ => True) (SV y) (chainK M.K (wA c.f2 i).f0 ++ [verOf c.f0 (wA c.f2 i)]) ∧ Below W.heap.size W w' := by
  have h0 := hinv.last0
  have hok := chainK_ok hinv.mid (wA c.f2 i).f0
  have hlen := ch_len hok (by omega)
  unfold maxSeq at hm
  have hokw : okW (wA c.f2 i) = true := by
    unfold rightW at hri
    rw [Bool.and_eq_true] at hri
    have := rises_iff.1 hri.2 i hi
    unfold okAt at this
    rw [Bool.and_eq_true] at this
    exact this.1
  have hlast : C.lastI (chainK M.K (wA c.f2 i).f0) ≤ lastM M := by
    unfold C.lastI
    split
    · omega
    · rename_i hz
      refine hok.top _ ?_
      simp only [rd_T118, List.getD, Int.toNat_natCast, List.getElem?_eq_getElem (show (chainK M.K (wA c.f2 i).f0).length - 1 < (chainK M.K (wA c.f2 i).f0).length by omega), Option.getD_some]
      exact List.getElem_mem _
  generalize chainK M.K (wA c.f2 i).f0 = ch at *
  refine (C.chain_Chain_Put.calls A n ch c.f0 (wA c.f2 i).f1 (wA c.f2 i).f2 (ch ++ [verOf c.f0 (wA c.f2 i)]) 0 W hC hn ?_).mono ?_
  · unfold C.chain_Chain_Put.f
    have hbad : C.badV ch c.f0 (wA c.f2 i).f1 (wA c.f2 i).f2 = false := by
      unfold C.badV
      rw [decide_eq_false (by omega), decide_eq_false (by omega), decide_eq_false (by omega), ver_ok hokw]
      rfl
    rw [if_pos (by omega), hbad]
    rfl
  · rintro e w' ⟨v0, rfl, hr, hb⟩
    obtain ⟨A', n', rfl⟩ := Kd.R_slice hr
    exact ⟨(A', _, n'), rfl, hr, hb⟩
theorem com_put (h : Com G w wr col s M c v i) (hG : ∀ k, w.heap.size ≤ k → G k) (hinv : Inv M) (hws : c.f2.Pairwise fun a b => kl a.f0 b.f0) (hsz : M.K.length ≤ 1000000 ∧ c.f2.length ≤ 200) (hi : i < c.f2.length) {W0 W1 : World} (hb0 : wr.heap.size ≤ W0.heap.size) (hb : Below wr.heap.size wr W1) {y : SVal}
    (hv : Kd.R k118 118 W1 W0.heap.size (fun _ => True) (SV y) (chainK M.K (wA c.f2 i).f0 ++ [verOf c.f0 (wA c.f2 i)])) :
    ∃ col1, ∀ W', Below W1.heap.size W1 W' → Calls Try.prog 65 #[.pointer (some ⟨s, 0, none⟩), .string (wA c.f2 i).f0, SV y] W' fun e w' => ∃ b, e = .returned (.bool b) ∧ Com G w w' col1 s M c v (i + 1) := by
  refine ⟨fun k => if k < wr.heap.size then col k else if k < W1.heap.size then 1 else 0, fun W' hb' => ?_⟩
  obtain ⟨H, L, hsc⟩ := h.sc
  have hwl := h.lt
  have hold : ∀ k, k < wr.heap.size → (fun k => if k < wr.heap.size then col k else if k < W1.heap.size then 1 else 0) k = col k := fun k hk => if_pos hk
  generalize hc1 : (fun k => if k < wr.heap.size then col k else if k < W1.heap.size then 1 else 0) = col1 at *
  have hrW : Below wr.heap.size wr W' := hb.trans (hb'.mono hb.size)
  have hsc1 := (hsc.turn (fun _ _ q => q) hold).below hrW
  have hl := putAll_length (s := c.f0) (c.f2.take i) M.K
  rw [List.length_take] at hl
  have hv1 : Kd.R k118 118 W' 0 (Hue G col1 1) (SV y) (chainK M.K (wA c.f2 i).f0 ++ [verOf c.f0 (wA c.f2 i)]) := by
    refine Kd.R_below (Kd.R_lower (Kd.R_mono (Kd.R_bound hv) (fun k hk => ?_)) (Nat.zero_le _)) hb'
    have h1 := hk.2.1
    have h2 := hk.2.2.1
    refine ⟨hG k (by omega), ?_⟩
    rw [← hc1]
    show (if k < wr.heap.size then col k else if k < W1.heap.size then 1 else 0) = 1
    rw [if_neg (by omega), if_pos h2]
  have hs1 := hb'.size
  have hs2 := hrW.size
  have hs3 := hb.size
  refine (put_chain hsc1 (fun k hk => hG k (by omega)) (fun k hk => ?_) (by unfold maxTree; show (putAll c.f0 M.K (c.f2.take i)).length ≤ _; omega) (wA c.f2 i).f0 y hv1).mono ?_
  · rw [← hc1]
    show (if k < wr.heap.size then col k else if k < W1.heap.size then 1 else 0) = 0
    rw [if_neg (by omega), if_neg (by omega)]
  · rintro e w' ⟨rfl, h1, hf⟩
    have hcn : chainK (putAll c.f0 M.K (c.f2.take i)) (wA c.f2 i).f0 = chainK M.K (wA c.f2 i).f0 := chain_next hinv.srt hws hi
    refine ⟨_, rfl, ⟨H, ins L (wA c.f2 i).f0 (SV y), ?_⟩, ?_, by rw [hold _ hwl]; exact h.hue, ?_, ?_⟩
    · rw [putAll_take hi]
      unfold putW
      rw [hcn]
      exact h1
    · refine (h.box.up hrW).kept (hf.block _ (Nat.lt_of_lt_of_le hwl hs2) (fun (q : Hue G col1 0 w.heap.size) => ?_))
      have h1 := q.2
      rw [hold _ hwl, h.hue] at h1
      cases h1
    · refine Kd.R_step (Kd.R_below (Kd.R_mono (Kd.R_bound h.ws) (fun k hk => Hue.recol hold k hk.2.2.1 hk.1)) hrW) (Fr.other hf (hue_ne (by decide)))
    · exact (h.fr.trans (Fr.below hrW)).trans (hf.mono (fun k _ q => q.1))
end Go.Proofs.Ytmafibbnojdpjaa.St
end
section
set_option linter.unusedVariables false
set_option maxRecDepth 100000
set_option linter.unusedSimpArgs false
namespace Go.Proofs.Ytmafibbnojdpjaa.St
open Go.Proofs.Ytmafibbnojdpjaa.Tr Go.RowKit Go.Proofs.YtmafibbnojdpjaaW.PrintWords Go.Proofs.YtmafibbnojdpjaaW.PrintLast Go.Proofs.YtmafibbnojdpjaaW.PrintMore Go.Proofs.Ytmafibbnojdpjaa.P
variable {G : Nat → Prop} {col : Nat → Nat} {w w' : World} {s : Nat} {M : StM} {H : Value} {L : List Tr.Item}
set_option maxHeartbeats 8000000 in
theorem com_good (h : StoreC G col w s M H L) (hi : 0 ≤ M.low) (hl : lastM M ≤ maxSeq) (c : Cm) (A : Option Addr) (cap : Nat) (hr : Kd.C k31 w A c.f2.length c.f2) (hc : c.f2.length ≤ cap) (hn : c.f2.length < 4611686018427387904) (hq : c.f0 = lastM M + 1) (h1 : c.f0 ≤ maxSeq) (h2 : 0 ≤ c.f1) (h3 : c.f1 ≤ maxSeq) (h4 : rightW c.f2 = true) (h5 : M.hist.length = 0 ∨ (0 < M.hist.length ∧ lastAt M.hist ≤ c.f1)) (hinv : Inv M) (hG : ∀ k, w.heap.size ≤ k → G k) (hsz : M.hist.length ≤ 1000000 ∧ M.K.length ≤ 1000000) :
    Calls Try.prog 36 #[.pointer (some ⟨s, 0, none⟩), .agg #[.int .i64 c.f0, .int .i64 c.f1, .slice A c.f2.length cap]] w fun e w' => e = .returned (.int .i64 0) ∧ StoreAt G w' s (comM M c) ∧ Fr G w w' := by
  have HLA : Aside0 (∀ W, Below w.heap.size w W → Calls Try.prog 37 #[.pointer (some ⟨s, 0, none⟩)] W fun e w' => e = .returned (.int .i64 (lastM M)) ∧ ∃ n, w' = W.drewN n) := ⟨fun W hW => last_any (h.below hW) hi hl⟩
  have HRA : Aside0 (∀ W, Below w.heap.size w W → Calls Try.prog 38 #[.slice A c.f2.length cap] W fun e w' => e = .returned (.bool (rightW c.f2)) ∧ Below W.heap.size W w') := ⟨fun W hW => right_any c.f2 A cap W (Kd.C_below hr hW) hc hn⟩
  have hla : 0 ≤ lastM M := by unfold lastM; omega
  have hws : c.f2.length ≤ 200 := by
    unfold rightW at h4
    rw [Bool.and_eq_true, decide_eq_true_eq] at h4
    exact h4.1
  have HCL : Aside0 (∀ W, Below w.heap.size w W → Calls Try.prog 66 #[.slice A c.f2.length cap] W fun e w' => ∃ v, e = .returned v ∧ Kd.R k31 31 w' W.heap.size (fun _ => True) v c.f2 ∧ Below W.heap.size W w') := ⟨fun W hW => clonew_any c.f2 A cap W (Kd.C_below hr hW) hc (by omega)⟩
  have HS := Aside0.mk h
  have HI := Aside0.mk hinv
  have HGG := Aside0.mk hG
  have HSZ := Aside0.mk hsz
  have HPW := Aside0.mk (right_pair h4)
  have HQ := Aside0.mk hq
  have HM1 := Aside0.mk h1
  have HRW := Aside0.mk h4
  obtain ⟨AH, cH, rfl, hcH, hCH⟩ := h.histS
  have hc3 := h.c3
  have hfz3 := h.fz 3
  have hfz2 := h.fz 2
  have hslt := h.lt
  have hlast : 0 < M.hist.length → ∃ ad, AH = some ad ∧ w.cell? ⟨(ad.add ((M.hist.length - 1) * 3)).block, (ad.add ((M.hist.length - 1) * 3)).off + 1, none⟩ = some (.int .i64 (lastAt M.hist)) := cm_last hCH
  have hlen : M.hist.length < 4611686018427387904 := by omega
  have HLQ : Aside0 (∃ la, la = lastM M) := ⟨_, rfl⟩
  clear h hr hCH hinv hG hsz
  rw [h4] at HRA
  unfold maxSeq at *
  obtain ⟨la, hla0⟩ : ∃ la, la = lastM M := ⟨_, rfl⟩
  have HLE := Aside0.mk hla0
  rw [← hla0] at HLA hla hl hq
  clear hla0 HLQ
  have hw : IntKind.i64.wrap (la + 1) = la + 1 := by rw [IntKind.wrap_i64]; omega
  have d0 : (la + 1 != la + 1) = false := by simp
  have d1 : decide ((1099511627776 : Int) < la + 1) = false := decide_eq_false (by omega)
  have d2 : decide (c.f1 < (0 : Int)) = false := decide_eq_false (by omega)
  have d3 : decide ((1099511627776 : Int) < c.f1) = false := decide_eq_false (by omega)
  rw [hq]
  have S0 : Three w.heap.size (.int .i64 (la + 1)) (.int .i64 c.f1) (.slice A c.f2.length cap) (w.alloc (.cells #[.int .i64 (la + 1), .int .i64 c.f1, .slice A c.f2.length cap] 28)).drew := (three_new w 28 _ _ _).up (below_drew1 (Below.refl _ _))
  have HBX : Aside0 (∀ W, Below (w.alloc (.cells #[.int .i64 (la + 1), .int .i64 c.f1, .slice A c.f2.length cap] 28)).heap.size (w.alloc (.cells #[.int .i64 (la + 1), .int .i64 c.f1, .slice A c.f2.length cap] 28)) W → W.heap[w.heap.size]? = some (.cells #[.int .i64 (la + 1), .int .i64 c.f1, .slice A c.f2.length cap] 28 (0, 0))) := ⟨fun W hW => (hW.block _ (by rw [World.size_alloc]; exact Nat.lt_succ_self _)).trans (heap_alloc_new w _)⟩
  have hdh : (decide ((0 : Int) < (M.hist.length : Int)) = false) ∨ (decide ((0 : Int) < (M.hist.length : Int)) = true ∧ decide (c.f1 < lastAt M.hist) = false ∧ 0 < M.hist.length) := by
    rcases h5 with h | ⟨h, h6⟩
    · exact .inl (decide_eq_false (by omega))
    · exact .inr ⟨decide_eq_true (by omega), decide_eq_false (by omega), h⟩
  obtain ⟨nh, hnh⟩ : ∃ nh, nh = M.hist.length := ⟨_, rfl⟩
  have HNH := Aside0.mk hnh
  rw [← hnh] at hdh hlast hlen hc3
  obtain ⟨lt, hlt⟩ : ∃ lt, lt = lastAt M.hist := ⟨_, rfl⟩
  rw [← hlt] at hdh hlast
  have e3 : 0 < nh → IntKind.i64.wrap ((nh : Int) - 1) = ((nh - 1 : Nat) : Int) := fun h => by rw [IntKind.wrap_i64]; omega
  clear h1 h2 h3 h4 hl hla hi hq h5 hlt hnh
  go_enter Try.func36, Try.ntmps36
  go_wp2
  go_region_held3 (fun W : World => W.cell? ⟨w.heap.size, 0, none⟩ = some (.int .i64 (la + 1)) ∧ W.cell? ⟨w.heap.size, 1, none⟩ = some (.int .i64 c.f1) ∧ W.cell? ⟨w.heap.size, 2, none⟩ = some (.slice A c.f2.length cap)) (first | exact S0 | exact S2 | exact S1) (first
    | (go_at_call 37; refine (HLA.out _ (by repeat (first | apply below_alloc | apply pw_below_drewN | apply below_drew1 | exact Below.refl _ _))).mono ?_; rintro e w1 ⟨rfl, nq, rfl⟩; have S1 := Three.on (pw_below_drewN (Below.refl _ _) nq) S0)
    | (go_at_call 38; refine (HRA.out _ (by repeat (first | apply below_alloc | apply pw_below_drewN | apply below_drew1 | exact Below.refl _ _))).mono ?_; rintro e w2 ⟨rfl, hb⟩; have S2 := Three.on hb S1; have HBB : Aside0 (Below (w.alloc (.cells #[.int .i64 (la + 1), .int .i64 c.f1, .slice A c.f2.length cap] 28)).heap.size (w.alloc (.cells #[.int .i64 (la + 1), .int .i64 c.f1, .slice A c.f2.length cap] 28)) w2) := ⟨below_step (by repeat (first | apply pw_below_drewN | apply below_drew1 | exact Below.refl _ _)) hb⟩; clear hb))
  go_wp2
  have HB2 : Aside0 (Below w.heap.size w w2) := ⟨(below_alloc (Below.refl _ _) _).trans (HBB.out.mono (by rw [World.size_alloc]; exact Nat.le_succ _))⟩
  have c3 := up HB2.out hc3
  obtain ⟨s0, s1, s2⟩ := S2
  rcases hdh with e1 | ⟨e1, e2, e5⟩
  · obtain rfl : nh = 0 := by
      have := of_decide_eq_false e1
      omega
    clear e1 hlast e3 S0 S1
    go_quiet (fail)
    go_wp2_with (go_at_call 66; refine (HCL.out _ (pw_below_drewN HB2.out nq)).mono ?_; rintro e w4 ⟨v, rfl, hv, hb4⟩; obtain ⟨A5, c5, rfl⟩ := Kd.R_slice hv
                 have HB4 : Aside0 (Below (w.alloc (.cells #[.int .i64 (la + 1), .int .i64 c.f1, .slice A c.f2.length cap] 28)).heap.size (w.alloc (.cells #[.int .i64 (la + 1), .int .i64 c.f1, .slice A c.f2.length cap] 28)) w4) := ⟨below_step (pw_below_drewN HBB.out nq) hb4⟩
                 have HV := Aside0.mk hv
                 have x4 := HBX.out _ HB4.out
                 have t2 : w4.cell? ⟨w.heap.size, 2, none⟩ = some (.slice A c.f2.length cap) := (cell_of_row _ _ _ _ _ _ x4).trans rfl
                 have z2 : w4.frozen? ⟨w.heap.size, 2, none⟩ = false := by simp [World.frozen?, x4]
                 have X4 := Aside0.mk x4
                 clear hv hb4 x4)
    obtain ⟨W5, hW5⟩ : ∃ W5, W5 = w4.setCell ⟨w.heap.size, 2, none⟩ (.slice A5 c.f2.length c5) := ⟨_, rfl⟩
    rw [← hW5]
    have hb4 : Below w.heap.size w w4 := (below_alloc (Below.refl _ _) _).trans (HB4.out.mono (by rw [World.size_alloc]; exact Nat.le_succ _))
    have hb5 : Below w.heap.size w W5 := by rw [hW5]; exact hb4.setCell (p := ⟨w.heap.size, 2, none⟩) (Nat.le_refl _) _
    have HB5 := Aside0.mk hb5
    have T5 : Aside0 (Three w.heap.size (.int .i64 (la + 1)) (.int .i64 c.f1) (.slice A5 c.f2.length c5) W5) := ⟨by rw [hW5]; exact three_set X4.out _⟩
    have SC5 : Aside0 (StoreC G (colB col w.heap.size) W5 s M (.slice AH 0 cH) L) := ⟨by have h := sc_box HS.out hb5; rw [← HNH.out] at h; exact h⟩
    have hz5 : w.heap.size < W5.heap.size := T5.out.lt
    have hz2 : w.heap.size < (w2.drewN nq).heap.size := by
      have := HBB.out.size
      rw [World.size_alloc] at this
      exact this
    have hq' : c.f0 = la + 1 := HQ.out.trans (by rw [HLE.out])
    have HQ2 := Aside0.mk hq'
    have HV5 : Aside0 (Kd.R k31 31 W5 0 (fun k => Hue G (colB col w.heap.size) 2 k ∧ w.heap.size < k) (.slice A5 c.f2.length c5) c.f2) := ⟨by
      rw [hW5]
      refine Kd.R_far (Kd.R_lower (Kd.R_mono (Kd.R_bound HV.out) (fun k hk => ?_)) (Nat.zero_le _)) (fun k hk => ?_) _
      · have h1 : w.heap.size < k := Nat.lt_of_lt_of_le hz2 hk.2.1
        exact ⟨⟨HGG.out k (Nat.le_of_lt h1), colB_new h1⟩, h1⟩
      · exact fun e => by have := hk.2; rw [e] at this; exact Nat.lt_irrefl _ this⟩
    have HP5 : Aside0 (∀ W, Below W5.heap.size W5 W → k28.M W 0 (fun k => Hue G (colB col w.heap.size) 2 k ∧ w.heap.size < k) c [.int .i64 (la + 1), .int .i64 c.f1, .slice A5 c.f2.length c5]) := ⟨fun W hW => by
      have := k28_mkM W 0 _ c (Kd.R_below HV5.out hW)
      rw [hq'] at this
      exact this⟩
    have hown : ∀ k, (Value.slice AH 0 cH).ownBlock = some k → k < w.heap.size := fun k hk => (HS.out.own k (by rw [← HNH.out]; exact hk)).1
    have HOW := Aside0.mk hown
    have hgf : ∀ k, W5.heap.size ≤ k → Hue G (colB col w.heap.size) 2 k := fun k hk => ⟨HGG.out k (by omega), colB_new (by omega)⟩
    have S5 : Three w.heap.size (.int .i64 (la + 1)) (.int .i64 c.f1) (.slice A5 c.f2.length c5) W5.drew := T5.out.up (below_drew1 (Below.refl _ _))
    have c3 : W5.drew.cell? ⟨s, 3, none⟩ = some (.slice AH 0 cH) := SC5.out.c3
    have c3b : (W5.drew.alloc (.cells #[.int .i64 (la + 1), .int .i64 c.f1, .slice A5 c.f2.length c5] 28)).cell? ⟨s, 3, none⟩ = some (.slice AH 0 cH) := up (below_alloc (Below.refl _ _) _) c3
    have HP6 : Aside0 (k28.M W5.drew 0 (fun k => Hue G (colB col w.heap.size) 2 k ∧ w.heap.size < k) c [.int .i64 (la + 1), .int .i64 c.f1, .slice A5 c.f2.length c5]) := ⟨HP5.out _ (below_drew1 (Below.refl _ _))⟩
    have HOKP : Aside0 (∀ k, (Hue G (colB col w.heap.size) 2 k ∧ w.heap.size < k) → Hue G (colB col w.heap.size) 2 k ∧ some k ≠ (Value.slice AH 0 cH).ownBlock) := ⟨fun k hk => ⟨hk.1, fun e => by have := hown _ e.symm; have := hk.2; omega⟩⟩
    have HO6 : Aside0 (Kd.R k28 28 W5.drew 0 (Hue G (colB col w.heap.size) 2) (.slice AH 0 cH) M.hist) := ⟨Kd.R_below SC5.out.hist (below_drew1 (Below.refl _ _))⟩
    have HGF : Aside0 (∀ k, W5.drew.heap.size ≤ k → Hue G (colB col w.heap.size) 2 k) := ⟨fun k hk => hgf k hk⟩
    have S6 : Three w.heap.size (.int .i64 (la + 1)) (.int .i64 c.f1) (.slice A5 c.f2.length c5) (W5.alloc (.cells #[.int .i64 (la + 1), .int .i64 c.f1, .slice A5 c.f2.length c5] 28)).drew := T5.out.up (below_drew1 (below_alloc (Below.refl _ _) _))
    have c3c : (W5.alloc (.cells #[.int .i64 (la + 1), .int .i64 c.f1, .slice A5 c.f2.length c5] 28)).drew.cell? ⟨s, 3, none⟩ = some (.slice AH 0 cH) := c3b
    have hle : (M.hist.length + 1) * 40 ≤ 140737488355328 := by have := HSZ.out.1; omega
    have HLE2 := Aside0.mk hle
    have HNE : Aside0 (∀ w7 : World, W5.drew.grownBy w7 (Value.slice AH 0 cH).ownBlock → w7.heap[w.heap.size]? = W5.heap[w.heap.size]?) := ⟨fun w7 hg => hg.block w.heap.size hz5 (fun e => Nat.lt_irrefl _ (hown _ e.symm))⟩
    clear hW5 hb4 hb5 hown hgf hle t2 z2 s0 s1 s2 hz2 hq' hfz2 hfz3 hc3 HCL HRA HLA HBX HB4 X4 HV
    obtain ⟨r0, r1, r2⟩ := S5
    obtain ⟨r3, r4, r5⟩ := S6
    go_region_law (first
      | (refine R_append_at k28 (W := W5.drew) 28 [.int .i64 (la + 1), .int .i64 c.f1, .slice A5 c.f2.length c5] (by rfl) 0 (by rfl) (.tmp 76) (.tmp 78) 23 (.agg #[.int .i64 0, .int .i64 0, .slice none 0 0]) 40 (by rfl) Try.underlying23 info28 (by rfl) (by decide) (by decide) (.slice AH 0 cH) M.hist c (Hue G (colB col w.heap.size) 2) (fun k => Hue G (colB col w.heap.size) 2 k ∧ w.heap.size < k) (by rfl) (by rfl) HP6.out HOKP.out HGF.out HO6.out (Nat.zero_le _) HLE2.out ?_
         intro v1 w7 g1 g3
         obtain ⟨A7, c7, ev7⟩ := Kd.R_slice g1
         rw [List.length_append, List.length_singleton] at ev7
         subst ev7
         have S7 := T5.out.kept (HNE.out w7 g3)
         have S8 := S7.kept (Below.heap_setCell w7 ⟨s, 3, none⟩ (.slice A7 (M.hist.length + 1) c7) w.heap.size (Nat.ne_of_gt hslt))
         obtain ⟨k1, k2, k3⟩ := sc_append (SC5.out.below (below_drew1 (Below.refl _ _))) g1 g3
         have K1 := Aside0.mk k1
         have G3 := Aside0.mk g3
         clear g1 g3 k1))
    all_goals
      have CM0 : Aside0 (Com G w (w7.setCell ⟨s, 3, none⟩ (.slice A7 (M.hist.length + 1) c7)) (colB col w.heap.size) s M c (.slice A5 c.f2.length c5) 0) := ⟨com_start HS.out HGG.out HB5.out HV5.out (by first | exact G3.out | (rw [show (Value.slice AH M.hist.length cH).ownBlock = (Value.slice AH 0 cH).ownBlock from by cases AH <;> rfl]; exact G3.out)) K1.out (by rw [HQ2.out]; exact S8)⟩
      clear K1 G3 HV5 HB5 S7 S8 k2 k3 HNE HOW HP5 HP6 HOKP HO6 HGF SC5 T5 r0 r1 r2 r3 r4 r5 c3 c3b c3c HS
      generalize w7.setCell ⟨s, 3, none⟩ (.slice A7 (M.hist.length + 1) c7) = W8 at *
      have b2 := CM0.out.box.2.2
      go_wp2
      go_loopg [85] (c.f2.length + 1) (fun kq v85 wq => ∃ (i : Nat) (col1 : Nat → Nat), v85 = .int .i64 (i : Int) ∧ i ≤ c.f2.length ∧ c.f2.length - i < kq ∧ Aside0 (Com G w wq col1 s M c (.slice A5 c.f2.length c5) i))
      case atStart => exact ⟨0, _, rfl, Nat.zero_le _, by omega, CM0⟩
      case round =>
        clear CM0 b2
        obtain ⟨i, col1, rfl, hi, hk, HC⟩ := hrel
        have z0 : (0 : Int) ≤ (i : Int) := by omega
        by_cases hlt : i < c.f2.length
        · have z1 : (i : Int) < (c.f2.length : Int) := by omega
          obtain ⟨A', c', e', _, hrow⟩ := Kd.R_reads HC.out.ws
          obtain ⟨ad5, eA, f0, f1, f2⟩ := at_T31 hrow (i : Int) z0 z1
          rw [rd_wA, Int.toNat_natCast] at f0 f1 f2
          have eA2 : A5 = some ad5 := by
            have := e'.trans (by rw [eA])
            injection this
          subst eA2
          have HXC : Aside0 (∀ W, Below wr.heap.size wr W → Calls Try.prog 67 #[.pointer (some ⟨s, 0, none⟩), .string (wA c.f2 i).f0] W fun e w' => ∃ A n b, e = .returned (.tuple #[.slice A (chainK M.K (wA c.f2 i).f0).length n, .bool b]) ∧ (chainK M.K (wA c.f2 i).f0).length ≤ n ∧ Kd.C k118 w' A (chainK M.K (wA c.f2 i).f0).length (chainK M.K (wA c.f2 i).f0) ∧ Below W.heap.size W w') := ⟨com_get HC.out HI.out HPW.out ⟨HSZ.out.2, hws⟩ hlt⟩
          have HCH : Aside0 (∀ (A : Option Addr) (n : Nat) (W : World), (chainK M.K (wA c.f2 i).f0).length ≤ n → Kd.C k118 W A (chainK M.K (wA c.f2 i).f0).length (chainK M.K (wA c.f2 i).f0) → Calls Try.prog 68 #[.slice A (chainK M.K (wA c.f2 i).f0).length n, .agg #[.int .i64 (la + 1), .string (wA c.f2 i).f1, .bool (wA c.f2 i).f2]] W fun e w' => ∃ y : SVal, e = .returned (.tuple #[SV y, .int .i64 0]) ∧ Kd.R k118 118 w' W.heap.size (fun _ => True) (SV y) (chainK M.K (wA c.f2 i).f0 ++ [verOf c.f0 (wA c.f2 i)]) ∧ Below W.heap.size W w') := ⟨fun A n W hn hC => by
            have := com_chain HI.out HQ.out HM1.out HRW.out hlt hn W hC
            rw [HQ2.out] at this
            rw [HQ2.out]
            exact this⟩
          have HPT : Aside0 (∀ (W0 W1 : World) (y : SVal), wr.heap.size ≤ W0.heap.size → Below wr.heap.size wr W1 → Kd.R k118 118 W1 W0.heap.size (fun _ => True) (SV y) (chainK M.K (wA c.f2 i).f0 ++ [verOf c.f0 (wA c.f2 i)]) → ∃ col1, ∀ W', Below W1.heap.size W1 W' → Calls Try.prog 65 #[.pointer (some ⟨s, 0, none⟩), .string (wA c.f2 i).f0, SV y] W' fun e w' => ∃ b, e = .returned (.bool b) ∧ Com G w w' col1 s M c (.slice (some ad5) c.f2.length c5) (i + 1)) := ⟨fun W0 W1 y h1 h2 h3 => com_put HC.out HGG.out HI.out HPW.out ⟨HSZ.out.2, hws⟩ hlt h1 h2 h3⟩
          generalize wA c.f2 i = x at *
          generalize verOf c.f0 x = vx at *
          generalize chainK M.K x.f0 = ch at *
          obtain ⟨d0, d1, d2⟩ := three_new wr 31 (.string x.f0) (.string x.f1) (.bool x.f2)
          have bx0 := HC.out.box.1
          rw [HQ2.out] at bx0
          have bx1 : (wr.alloc (.cells #[.string x.f0, .string x.f1, .bool x.f2] 31)).cell? ⟨w.heap.size, 0, none⟩ = some (.int .i64 (la + 1)) := up (below_alloc (Below.refl _ _) _) bx0
          clear hrow e' eA
          go_wp2
          go_region_law (first
            | (rw [if_pos (by rfl)]; go_simp; refine (HXC.out _ (by repeat (first | apply below_alloc | apply pw_below_drewN | apply below_drew1 | exact Below.refl _ _))).mono ?_; rintro e w5 ⟨A1, n1, b1, rfl, hn1, hC1, hb1⟩
               have HB5 : Aside0 (Below wr.heap.size wr w5) := ⟨below_step (by repeat (first | apply below_alloc | apply pw_below_drewN | apply below_drew1 | exact Below.refl _ _)) hb1⟩
               have HC1 := Aside0.mk hC1
               have HN1 := Aside0.mk hn1
               have bx2 : w5.cell? ⟨w.heap.size, 0, none⟩ = some (.int .i64 (la + 1)) := up hb1 (show (wr.alloc (.cells #[.string x.f0, .string x.f1, .bool x.f2] 31)).drew.cell? ⟨w.heap.size, 0, none⟩ = _ from bx1)
               have d3 : w5.cell? ⟨wr.heap.size, 0, none⟩ = some (.string x.f0) := up hb1 (show (wr.alloc (.cells #[.string x.f0, .string x.f1, .bool x.f2] 31)).drew.cell? ⟨wr.heap.size, 0, none⟩ = _ from d0)
               have d4 : w5.cell? ⟨wr.heap.size, 1, none⟩ = some (.string x.f1) := up hb1 (show (wr.alloc (.cells #[.string x.f0, .string x.f1, .bool x.f2] 31)).drew.cell? ⟨wr.heap.size, 1, none⟩ = _ from d1)
               have d5 : w5.cell? ⟨wr.heap.size, 2, none⟩ = some (.bool x.f2) := up hb1 (show (wr.alloc (.cells #[.string x.f0, .string x.f1, .bool x.f2] 31)).drew.cell? ⟨wr.heap.size, 2, none⟩ = _ from d2)
               clear hC1 hb1 hn1))
          go_wp2_with (first
            | (go_at_call 68; refine (HCH.out A1 n1 w5 HN1.out HC1.out).mono ?_; rintro e w6 ⟨y, rfl, hv6, hb6⟩
               have d6 := up hb6 d3
               obtain ⟨col2, hput⟩ := HPT.out w5 w6 y HB5.out.size (below_step HB5.out hb6) hv6
               have HPUT := Aside0.mk hput
               clear hv6 hb6 hput))
          go_region_law (first
            | (rw [if_pos (by rfl)]; go_simp; refine (HPUT.out _ (by repeat (first | apply below_alloc | apply pw_below_drewN | apply below_drew1 | exact Below.refl _ _))).mono ?_; rintro e w8 ⟨b8, rfl, hc8⟩
               have HC8 := Aside0.mk hc8
               clear hc8))
          go_wp2
          go_roundg (gk - 1)
          case measure => omega
          case rel => exact ⟨i + 1, col2, by go_num, by omega, by omega, HC8⟩
        · have hiz : i = c.f2.length := by omega
          subst hiz
          clear hi hlt
          go_wp2
          go_ret
          obtain ⟨H8, L8, hs8⟩ := HC.out.sc
          rw [List.take_length] at hs8
          exact ⟨rfl, ⟨_, _, _, hs8⟩, HC.out.fr⟩
  · obtain ⟨ad, rfl, l0⟩ := hlast e5
    have l1 := up HB2.out l0
    have e4 := e3 e5
    have e6 : (0 : Int) ≤ ((nh - 1 : Nat) : Int) := by omega
    have e7 : ((nh - 1 : Nat) : Int) < (nh : Int) := by omega
    clear hlast e3 l0 S0 S1
    go_quiet (fail)
    go_wp2_with (go_at_call 66; refine (HCL.out _ (pw_below_drewN HB2.out nq)).mono ?_; rintro e w4 ⟨v, rfl, hv, hb4⟩; obtain ⟨A5, c5, rfl⟩ := Kd.R_slice hv
                 have HB4 : Aside0 (Below (w.alloc (.cells #[.int .i64 (la + 1), .int .i64 c.f1, .slice A c.f2.length cap] 28)).heap.size (w.alloc (.cells #[.int .i64 (la + 1), .int .i64 c.f1, .slice A c.f2.length cap] 28)) w4) := ⟨below_step (pw_below_drewN HBB.out nq) hb4⟩
                 have HV := Aside0.mk hv
                 have x4 := HBX.out _ HB4.out
                 have t2 : w4.cell? ⟨w.heap.size, 2, none⟩ = some (.slice A c.f2.length cap) := (cell_of_row _ _ _ _ _ _ x4).trans rfl
                 have z2 : w4.frozen? ⟨w.heap.size, 2, none⟩ = false := by simp [World.frozen?, x4]
                 have X4 := Aside0.mk x4
                 clear hv hb4 x4)
    obtain ⟨W5, hW5⟩ : ∃ W5, W5 = w4.setCell ⟨w.heap.size, 2, none⟩ (.slice A5 c.f2.length c5) := ⟨_, rfl⟩
    rw [← hW5]
    have hb4 : Below w.heap.size w w4 := (below_alloc (Below.refl _ _) _).trans (HB4.out.mono (by rw [World.size_alloc]; exact Nat.le_succ _))
    have hb5 : Below w.heap.size w W5 := by rw [hW5]; exact hb4.setCell (p := ⟨w.heap.size, 2, none⟩) (Nat.le_refl _) _
    have HB5 := Aside0.mk hb5
    have T5 : Aside0 (Three w.heap.size (.int .i64 (la + 1)) (.int .i64 c.f1) (.slice A5 c.f2.length c5) W5) := ⟨by rw [hW5]; exact three_set X4.out _⟩
    have SC5 : Aside0 (StoreC G (colB col w.heap.size) W5 s M (.slice (some ad) nh cH) L) := ⟨by have h := sc_box HS.out hb5; rw [← HNH.out] at h; exact h⟩
    have hz5 : w.heap.size < W5.heap.size := T5.out.lt
    have hz2 : w.heap.size < (w2.drewN nq).heap.size := by
      have := HBB.out.size
      rw [World.size_alloc] at this
      exact this
    have hq' : c.f0 = la + 1 := HQ.out.trans (by rw [HLE.out])
    have HQ2 := Aside0.mk hq'
    have HV5 : Aside0 (Kd.R k31 31 W5 0 (fun k => Hue G (colB col w.heap.size) 2 k ∧ w.heap.size < k) (.slice A5 c.f2.length c5) c.f2) := ⟨by
      rw [hW5]
      refine Kd.R_far (Kd.R_lower (Kd.R_mono (Kd.R_bound HV.out) (fun k hk => ?_)) (Nat.zero_le _)) (fun k hk => ?_) _
      · have h1 : w.heap.size < k := Nat.lt_of_lt_of_le hz2 hk.2.1
        exact ⟨⟨HGG.out k (Nat.le_of_lt h1), colB_new h1⟩, h1⟩
      · exact fun e => by have := hk.2; rw [e] at this; exact Nat.lt_irrefl _ this⟩
    have HP5 : Aside0 (∀ W, Below W5.heap.size W5 W → k28.M W 0 (fun k => Hue G (colB col w.heap.size) 2 k ∧ w.heap.size < k) c [.int .i64 (la + 1), .int .i64 c.f1, .slice A5 c.f2.length c5]) := ⟨fun W hW => by
      have := k28_mkM W 0 _ c (Kd.R_below HV5.out hW)
      rw [hq'] at this
      exact this⟩
    have hown : ∀ k, (Value.slice (some ad) nh cH).ownBlock = some k → k < w.heap.size := fun k hk => (HS.out.own k (by rw [← HNH.out]; exact hk)).1
    have HOW := Aside0.mk hown
    have hgf : ∀ k, W5.heap.size ≤ k → Hue G (colB col w.heap.size) 2 k := fun k hk => ⟨HGG.out k (by omega), colB_new (by omega)⟩
    have S5 : Three w.heap.size (.int .i64 (la + 1)) (.int .i64 c.f1) (.slice A5 c.f2.length c5) W5.drew := T5.out.up (below_drew1 (Below.refl _ _))
    have c3 : W5.drew.cell? ⟨s, 3, none⟩ = some (.slice (some ad) nh cH) := SC5.out.c3
    have c3b : (W5.drew.alloc (.cells #[.int .i64 (la + 1), .int .i64 c.f1, .slice A5 c.f2.length c5] 28)).cell? ⟨s, 3, none⟩ = some (.slice (some ad) nh cH) := up (below_alloc (Below.refl _ _) _) c3
    have HP6 : Aside0 (k28.M W5.drew 0 (fun k => Hue G (colB col w.heap.size) 2 k ∧ w.heap.size < k) c [.int .i64 (la + 1), .int .i64 c.f1, .slice A5 c.f2.length c5]) := ⟨HP5.out _ (below_drew1 (Below.refl _ _))⟩
    have HOKP : Aside0 (∀ k, (Hue G (colB col w.heap.size) 2 k ∧ w.heap.size < k) → Hue G (colB col w.heap.size) 2 k ∧ some k ≠ (Value.slice (some ad) nh cH).ownBlock) := ⟨fun k hk => ⟨hk.1, fun e => by have := hown _ e.symm; have := hk.2; omega⟩⟩
    have HO6 : Aside0 (Kd.R k28 28 W5.drew 0 (Hue G (colB col w.heap.size) 2) (.slice (some ad) nh cH) M.hist) := ⟨Kd.R_below SC5.out.hist (below_drew1 (Below.refl _ _))⟩
    have HGF : Aside0 (∀ k, W5.drew.heap.size ≤ k → Hue G (colB col w.heap.size) 2 k) := ⟨fun k hk => hgf k hk⟩
    have S6 : Three w.heap.size (.int .i64 (la + 1)) (.int .i64 c.f1) (.slice A5 c.f2.length c5) (W5.alloc (.cells #[.int .i64 (la + 1), .int .i64 c.f1, .slice A5 c.f2.length c5] 28)).drew := T5.out.up (below_drew1 (below_alloc (Below.refl _ _) _))
    have c3c : (W5.alloc (.cells #[.int .i64 (la + 1), .int .i64 c.f1, .slice A5 c.f2.length c5] 28)).drew.cell? ⟨s, 3, none⟩ = some (.slice (some ad) nh cH) := c3b
    have hle : (M.hist.length + 1) * 40 ≤ 140737488355328 := by have := HSZ.out.1; omega
    have HLE2 := Aside0.mk hle
    have HNE : Aside0 (∀ w7 : World, W5.drew.grownBy w7 (Value.slice (some ad) nh cH).ownBlock → w7.heap[w.heap.size]? = W5.heap[w.heap.size]?) := ⟨fun w7 hg => hg.block w.heap.size hz5 (fun e => Nat.lt_irrefl _ (hown _ e.symm))⟩
    clear hW5 hb4 hb5 hown hgf hle t2 z2 s0 s1 s2 hz2 hq' hfz2 hfz3 hc3 HCL HRA HLA HBX HB4 X4 HV
    obtain ⟨r0, r1, r2⟩ := S5
    obtain ⟨r3, r4, r5⟩ := S6
    go_region_law (first
      | (refine R_append_at k28 (W := W5.drew) 28 [.int .i64 (la + 1), .int .i64 c.f1, .slice A5 c.f2.length c5] (by rfl) 0 (by rfl) (.tmp 76) (.tmp 78) 23 (.agg #[.int .i64 0, .int .i64 0, .slice none 0 0]) 40 (by rfl) Try.underlying23 info28 (by rfl) (by decide) (by decide) (.slice (some ad) nh cH) M.hist c (Hue G (colB col w.heap.size) 2) (fun k => Hue G (colB col w.heap.size) 2 k ∧ w.heap.size < k) (by rfl) (by rfl) HP6.out HOKP.out HGF.out HO6.out (Nat.zero_le _) HLE2.out ?_
         intro v1 w7 g1 g3
         obtain ⟨A7, c7, ev7⟩ := Kd.R_slice g1
         rw [List.length_append, List.length_singleton] at ev7
         subst ev7
         have S7 := T5.out.kept (HNE.out w7 g3)
         have S8 := S7.kept (Below.heap_setCell w7 ⟨s, 3, none⟩ (.slice A7 (M.hist.length + 1) c7) w.heap.size (Nat.ne_of_gt hslt))
         obtain ⟨k1, k2, k3⟩ := sc_append (SC5.out.below (below_drew1 (Below.refl _ _))) g1 g3
         have K1 := Aside0.mk k1
         have G3 := Aside0.mk g3
         clear g1 g3 k1))
    all_goals
      have CM0 : Aside0 (Com G w (w7.setCell ⟨s, 3, none⟩ (.slice A7 (M.hist.length + 1) c7)) (colB col w.heap.size) s M c (.slice A5 c.f2.length c5) 0) := ⟨com_start HS.out HGG.out HB5.out HV5.out (by first | exact G3.out | (rw [show (Value.slice AH M.hist.length cH).ownBlock = (Value.slice AH 0 cH).ownBlock from by cases AH <;> rfl]; exact G3.out)) K1.out (by rw [HQ2.out]; exact S8)⟩
      clear K1 G3 HV5 HB5 S7 S8 k2 k3 HNE HOW HP5 HP6 HOKP HO6 HGF SC5 T5 r0 r1 r2 r3 r4 r5 c3 c3b c3c HS
      generalize w7.setCell ⟨s, 3, none⟩ (.slice A7 (M.hist.length + 1) c7) = W8 at *
      have b2 := CM0.out.box.2.2
      go_wp2
      go_loopg [85] (c.f2.length + 1) (fun kq v85 wq => ∃ (i : Nat) (col1 : Nat → Nat), v85 = .int .i64 (i : Int) ∧ i ≤ c.f2.length ∧ c.f2.length - i < kq ∧ Aside0 (Com G w wq col1 s M c (.slice A5 c.f2.length c5) i))
      case atStart => exact ⟨0, _, rfl, Nat.zero_le _, by omega, CM0⟩
      case round =>
        clear CM0 b2
        obtain ⟨i, col1, rfl, hi, hk, HC⟩ := hrel
        have z0 : (0 : Int) ≤ (i : Int) := by omega
        by_cases hlt : i < c.f2.length
        · have z1 : (i : Int) < (c.f2.length : Int) := by omega
          obtain ⟨A', c', e', _, hrow⟩ := Kd.R_reads HC.out.ws
          obtain ⟨ad5, eA, f0, f1, f2⟩ := at_T31 hrow (i : Int) z0 z1
          rw [rd_wA, Int.toNat_natCast] at f0 f1 f2
          have eA2 : A5 = some ad5 := by
            have := e'.trans (by rw [eA])
            injection this
          subst eA2
          have HXC : Aside0 (∀ W, Below wr.heap.size wr W → Calls Try.prog 67 #[.pointer (some ⟨s, 0, none⟩), .string (wA c.f2 i).f0] W fun e w' => ∃ A n b, e = .returned (.tuple #[.slice A (chainK M.K (wA c.f2 i).f0).length n, .bool b]) ∧ (chainK M.K (wA c.f2 i).f0).length ≤ n ∧ Kd.C k118 w' A (chainK M.K (wA c.f2 i).f0).length (chainK M.K (wA c.f2 i).f0) ∧ Below W.heap.size W w') := ⟨com_get HC.out HI.out HPW.out ⟨HSZ.out.2, hws⟩ hlt⟩
          have HCH : Aside0 (∀ (A : Option Addr) (n : Nat) (W : World), (chainK M.K (wA c.f2 i).f0).length ≤ n → Kd.C k118 W A (chainK M.K (wA c.f2 i).f0).length (chainK M.K (wA c.f2 i).f0) → Calls Try.prog 68 #[.slice A (chainK M.K (wA c.f2 i).f0).length n, .agg #[.int .i64 (la + 1), .string (wA c.f2 i).f1, .bool (wA c.f2 i).f2]] W fun e w' => ∃ y : SVal, e = .returned (.tuple #[SV y, .int .i64 0]) ∧ Kd.R k118 118 w' W.heap.size (fun _ => True) (SV y) (chainK M.K (wA c.f2 i).f0 ++ [verOf c.f0 (wA c.f2 i)]) ∧ Below W.heap.size W w') := ⟨fun A n W hn hC => by
            have := com_chain HI.out HQ.out HM1.out HRW.out hlt hn W hC
            rw [HQ2.out] at this
            rw [HQ2.out]
            exact this⟩
          have HPT : Aside0 (∀ (W0 W1 : World) (y : SVal), wr.heap.size ≤ W0.heap.size → Below wr.heap.size wr W1 → Kd.R k118 118 W1 W0.heap.size (fun _ => True) (SV y) (chainK M.K (wA c.f2 i).f0 ++ [verOf c.f0 (wA c.f2 i)]) → ∃ col1, ∀ W', Below W1.heap.size W1 W' → Calls Try.prog 65 #[.pointer (some ⟨s, 0, none⟩), .string (wA c.f2 i).f0, SV y] W' fun e w' => ∃ b, e = .returned (.bool b) ∧ Com G w w' col1 s M c (.slice (some ad5) c.f2.length c5) (i + 1)) := ⟨fun W0 W1 y h1 h2 h3 => com_put HC.out HGG.out HI.out HPW.out ⟨HSZ.out.2, hws⟩ hlt h1 h2 h3⟩
          generalize wA c.f2 i = x at *
          generalize verOf c.f0 x = vx at *
          generalize chainK M.K x.f0 = ch at *
          obtain ⟨d0, d1, d2⟩ := three_new wr 31 (.string x.f0) (.string x.f1) (.bool x.f2)
          have bx0 := HC.out.box.1
          rw [HQ2.out] at bx0
          have bx1 : (wr.alloc (.cells #[.string x.f0, .string x.f1, .bool x.f2] 31)).cell? ⟨w.heap.size, 0, none⟩ = some (.int .i64 (la + 1)) := up (below_alloc (Below.refl _ _) _) bx0
          clear hrow e' eA
          go_wp2
          go_region_law (first
            | (rw [if_pos (by rfl)]; go_simp; refine (HXC.out _ (by repeat (first | apply below_alloc | apply pw_below_drewN | apply below_drew1 | exact Below.refl _ _))).mono ?_; rintro e w5 ⟨A1, n1, b1, rfl, hn1, hC1, hb1⟩
               have HB5 : Aside0 (Below wr.heap.size wr w5) := ⟨below_step (by repeat (first | apply below_alloc | apply pw_below_drewN | apply below_drew1 | exact Below.refl _ _)) hb1⟩
               have HC1 := Aside0.mk hC1
               have HN1 := Aside0.mk hn1
               have bx2 : w5.cell? ⟨w.heap.size, 0, none⟩ = some (.int .i64 (la + 1)) := up hb1 (show (wr.alloc (.cells #[.string x.f0, .string x.f1, .bool x.f2] 31)).drew.cell? ⟨w.heap.size, 0, none⟩ = _ from bx1)
               have d3 : w5.cell? ⟨wr.heap.size, 0, none⟩ = some (.string x.f0) := up hb1 (show (wr.alloc (.cells #[.string x.f0, .string x.f1, .bool x.f2] 31)).drew.cell? ⟨wr.heap.size, 0, none⟩ = _ from d0)
               have d4 : w5.cell? ⟨wr.heap.size, 1, none⟩ = some (.string x.f1) := up hb1 (show (wr.alloc (.cells #[.string x.f0, .string x.f1, .bool x.f2] 31)).drew.cell? ⟨wr.heap.size, 1, none⟩ = _ from d1)
               have d5 : w5.cell? ⟨wr.heap.size, 2, none⟩ = some (.bool x.f2) := up hb1 (show (wr.alloc (.cells #[.string x.f0, .string x.f1, .bool x.f2] 31)).drew.cell? ⟨wr.heap.size, 2, none⟩ = _ from d2)
               clear hC1 hb1 hn1))
          go_wp2_with (first
            | (go_at_call 68; refine (HCH.out A1 n1 w5 HN1.out HC1.out).mono ?_; rintro e w6 ⟨y, rfl, hv6, hb6⟩
               have d6 := up hb6 d3
               obtain ⟨col2, hput⟩ := HPT.out w5 w6 y HB5.out.size (below_step HB5.out hb6) hv6
               have HPUT := Aside0.mk hput
               clear hv6 hb6 hput))
          go_region_law (first
            | (rw [if_pos (by rfl)]; go_simp; refine (HPUT.out _ (by repeat (first | apply below_alloc | apply pw_below_drewN | apply below_drew1 | exact Below.refl _ _))).mono ?_; rintro e w8 ⟨b8, rfl, hc8⟩
               have HC8 := Aside0.mk hc8
               clear hc8))
          go_wp2
          go_roundg (gk - 1)
          case measure => omega
          case rel => exact ⟨i + 1, col2, by go_num, by omega, by omega, HC8⟩
        · have hiz : i = c.f2.length := by omega
          subst hiz
          clear hi hlt
          go_wp2
          go_ret
          obtain ⟨H8, L8, hs8⟩ := HC.out.sc
          rw [List.take_length] at hs8
          exact ⟨rfl, ⟨_, _, _, hs8⟩, HC.out.fr⟩
end Go.Proofs.Ytmafibbnojdpjaa.St
end
section
set_option linter.unusedVariables false
set_option maxRecDepth 100000
set_option linter.unusedSimpArgs false
namespace Go.Proofs.Ytmafibbnojdpjaa.St
open Go.Proofs.Ytmafibbnojdpjaa.Tr Go.RowKit Go.Proofs.YtmafibbnojdpjaaW.PrintWords Go.Proofs.YtmafibbnojdpjaaW.PrintLast Go.Proofs.YtmafibbnojdpjaaW.PrintMore Go.Proofs.Ytmafibbnojdpjaa.P
variable {G : Nat → Prop} {w : World} {s : Nat} {M : StM}
/-- what a commit makes of a store -/
def stepM (M : StM) (c : Cm) : StM := if goodC M c = true then comM M c else M
def errC (M : StM) (c : Cm) : Int := if goodC M c = true then 0 else 1
theorem com_any (h : StoreAt G w s M) (hinv : Inv M) (hG : ∀ k, w.heap.size ≤ k → G k) (hsz : M.hist.length ≤ 1000000 ∧ M.K.length ≤ 1000000) (c : Cm) (A : Option Addr) (cap : Nat) (hr : Kd.C k31 w A c.f2.length c.f2) (hc : c.f2.length ≤ cap) (hn : c.f2.length < 4611686018427387904) :
    Calls Try.prog 36 #[.pointer (some ⟨s, 0, none⟩), .agg #[.int .i64 c.f0, .int .i64 c.f1, .slice A c.f2.length cap]] w fun e w' => e = .returned (.int .i64 (errC M c)) ∧ StoreAt G w' s (stepM M c) ∧ Fr G w w' := by
  obtain ⟨col, H, L, hs⟩ := h
  have bad : goodC M c = false → (Calls Try.prog 36 #[.pointer (some ⟨s, 0, none⟩), .agg #[.int .i64 c.f0, .int .i64 c.f1, .slice A c.f2.length cap]] w fun e w' => e = .returned (.int .i64 1) ∧ Below w.heap.size w w') → Calls Try.prog 36 #[.pointer (some ⟨s, 0, none⟩), .agg #[.int .i64 c.f0, .int .i64 c.f1, .slice A c.f2.length cap]] w fun e w' => e = .returned (.int .i64 (errC M c)) ∧ StoreAt G w' s (stepM M c) ∧ Fr G w w' := by
    intro hb hcall
    refine hcall.mono ?_
    rintro e w' ⟨rfl, hbl⟩
    unfold errC stepM
    rw [hb]
    exact ⟨rfl, ⟨_, _, _, hs.below hbl⟩, Fr.below hbl⟩
  have nb : ∀ (p : Prop), (goodC M c = true → p) → ¬ p → goodC M c = false := fun p h1 h2 => by
    cases hg : goodC M c with
    | false => rfl
    | true => exact absurd (h1 hg) h2
  have hlow := hinv.low
  have hlast := hinv.last
  by_cases h1 : c.f0 = lastM M + 1
  case neg => exact bad (nb _ (fun h => (goodC_iff.1 h).1) h1) (com_seq hs hlow hlast _ _ _ h1)
  by_cases h2 : c.f0 ≤ maxSeq
  case neg => exact bad (nb _ (fun h => (goodC_iff.1 h).2.1) h2) (com_max hs hlow hlast _ _ _ h1 (by omega))
  by_cases h3 : 0 ≤ c.f1
  case neg => exact bad (nb _ (fun h => (goodC_iff.1 h).2.2.1) h3) (com_neg hs hlow hlast _ _ _ h1 h2 (by omega))
  by_cases h4 : c.f1 ≤ maxSeq
  case neg => exact bad (nb _ (fun h => (goodC_iff.1 h).2.2.2.1) h4) (com_time hs hlow hlast _ _ _ h1 h2 h3 (by omega))
  cases h5 : rightW c.f2 with
  | false => exact bad (nb _ (fun h => (goodC_iff.1 h).2.2.2.2.1) (by rw [h5]; decide)) (com_right hs hlow hlast c A cap hr hc hn h1 h2 h3 h4 h5)
  | true =>
    by_cases h6 : 0 < M.hist.length ∧ c.f1 < lastAt M.hist
    · exact bad (nb _ (fun h => (goodC_iff.1 h).2.2.2.2.2) (by omega)) (com_back hs hlow hlast c A cap hr hc hn h1 h2 h3 h4 h5 h6.1 h6.2)
    · have hg : goodC M c = true := goodC_iff.2 ⟨h1, h2, h3, h4, h5, by omega⟩
      unfold errC stepM
      rw [if_pos hg, if_pos hg]
      exact com_good hs hlow hlast c A cap hr hc hn h1 h2 h3 h4 h5 (by omega) hinv hG hsz
end Go.Proofs.Ytmafibbnojdpjaa.St
end
section
set_option linter.unusedVariables false
set_option maxRecDepth 100000
set_option linter.unusedSimpArgs false
namespace Go.Proofs.Ytmafibbnojdpjaa.St
open Go.Proofs.Ytmafibbnojdpjaa.Tr Go.RowKit Go.Proofs.YtmafibbnojdpjaaW.PrintWords Go.Proofs.YtmafibbnojdpjaaW.PrintLast Go.Proofs.YtmafibbnojdpjaaW.PrintMore Go.Proofs.Ytmafibbnojdpjaa.P
variable {G : Nat → Prop} {col : Nat → Nat} {w wr : World} {s : Nat} {M : StM} {H : Value} {L : List Tr.Item}
/-- a chain put, whose row has been made since wr -/
theorem st_put (h : StoreC G col wr s M H L) (hG : ∀ k, wr.heap.size ≤ k → G k) (hsz : M.K.length ≤ 2000000) {base : Nat} {W1 : World} (hb0 : wr.heap.size ≤ base) (hb : Below wr.heap.size wr W1) (x : ByteArray) {y : SVal} {ch : List Ver}
    (hv : Kd.R k118 118 W1 base (fun _ => True) (SV y) ch) :
    ∃ col1, ∀ W', Below W1.heap.size W1 W' → Calls Try.prog 65 #[.pointer (some ⟨s, 0, none⟩), .string x, SV y] W' fun e w' => ∃ b, e = .returned (.bool b) ∧ (∃ L', StoreC G col1 w' s ⟨M.low, M.hist, insK M.K x ch⟩ H L') ∧ Fr G W' w' := by
  refine ⟨fun k => if k < wr.heap.size then col k else if k < W1.heap.size then 1 else 0, fun W' hb' => ?_⟩
  have hold : ∀ k, k < wr.heap.size → (fun k => if k < wr.heap.size then col k else if k < W1.heap.size then 1 else 0) k = col k := fun k hk => if_pos hk
  generalize hc1 : (fun k => if k < wr.heap.size then col k else if k < W1.heap.size then 1 else 0) = col1 at *
  have hrW : Below wr.heap.size wr W' := hb.trans (hb'.mono hb.size)
  have hsc1 := (h.turn (fun _ _ q => q) hold).below hrW
  have hv1 : Kd.R k118 118 W' 0 (Hue G col1 1) (SV y) ch := by
    refine Kd.R_below (Kd.R_lower (Kd.R_mono (Kd.R_bound hv) (fun k hk => ?_)) (Nat.zero_le _)) hb'
    have h1 := hk.2.1
    have h2 := hk.2.2.1
    refine ⟨hG k (by omega), ?_⟩
    rw [← hc1]
    show (if k < wr.heap.size then col k else if k < W1.heap.size then 1 else 0) = 1
    rw [if_neg (by omega), if_pos h2]
  have hs1 := hb'.size
  have hs3 := hb.size
  refine (put_chain hsc1 (fun k hk => hG k (by omega)) (fun k hk => ?_) (by unfold maxTree; omega) x y hv1).mono ?_
  · rw [← hc1]
    show (if k < wr.heap.size then col k else if k < W1.heap.size then 1 else 0) = 0
    rw [if_neg (by omega), if_neg (by omega)]
  · rintro e w' ⟨rfl, h1, hf⟩
    exact ⟨_, rfl, ⟨_, h1⟩, hf.mono (fun k _ q => q.1)⟩
/-- a row of one version, as it is made -/
theorem one_row {W : World} {b : Nat} {q : Int} {v : ByteArray} {g : Bool} {base : Nat} (hb : base ≤ b) (hh : W.heap[b]? = some (.cells #[.int .i64 q, .string v, .bool g] 118 (0, 0))) : Kd.R k118 118 W base (fun _ => True) (.slice (some ⟨b, 0, none⟩) 1 1) [⟨q, v, g⟩] := by
  refine ⟨fun _ _ => trivial, [.int .i64 q, .string v, .bool g], ⟨rfl, .inr ⟨b, 1, _, rfl, hb, hh, Nat.le_refl _, by simp [maxLen], rfl, rfl⟩⟩, ?_⟩
  have := (Reps.none (k118.M W base (fun k => True ∧ some k ≠ (Value.slice (some ⟨b, 0, none⟩) 1 1).ownBlock)) 3).snoc (k118_mkM W base _ ⟨q, v, g⟩) rfl
  exact this
/-- a store without keys -/
theorem new_start (w : World) (q : Int) : StoreC (fun k => w.heap.size ≤ k) (fun _ => 0) (w.alloc (.cells #[.slice none 0 0, .int .i64 0, .int .i64 q, .slice none 0 0] 113)) w.heap.size ⟨q, [], []⟩ (.slice none 0 0) [] := by
  refine ⟨⟨.slice none 0 0, [], ?_, ?_, rfl⟩, trivial, Kd.R_nil _ _ _ _ _⟩
  · exact { head := heap_alloc_new w _, inF := ⟨Nat.le_refl _, rfl⟩, row := World.ownsRow_nil _ _ _ _, apart := fun k e => by simp [Value.ownBlock] at e, leaf := fun m hm => (by cases hm), nodup := List.Pairwise.nil }
  · exact { ne := fun l hl => (by cases hl), srt := List.Pairwise.nil }
theorem gone_bad {q : Int} {ws : List Wr} {i : Nat} (hi : i < ws.length) (hg : (wA ws i).f2 = true) : newOk q ws = false := by
  cases hn : newOk q ws with
  | false => rfl
  | true =>
    unfold newOk at hn
    simp only [Bool.and_eq_true] at hn
    have := List.all_eq_true.1 hn.2 (wA ws i) (by rw [wA_eq hi]; exact List.getElem_mem _)
    rw [hg] at this
    cases this
def newPost (w : World) (q : Int) (ws : List Wr) (e : Ending) (w' : World) : Prop :=
  Below w.heap.size w w' ∧ (newOk q ws = false → e = .returned (.tuple #[.pointer none, .int .i64 1])) ∧
    (newOk q ws = true → ∃ s, e = .returned (.tuple #[.pointer (some ⟨s, 0, none⟩), .int .i64 0]) ∧ StoreAt (fun k => w.heap.size ≤ k) w' s (newM q ws))
theorem new_bad {q : Int} {ws : List Wr} {A : Option Addr} {cap : Nat} (hn : newOk q ws = false) (h : Calls Try.prog 35 #[.int .i64 q, .slice A ws.length cap] w fun e w' => e = .returned (.tuple #[.pointer none, .int .i64 1]) ∧ Below w.heap.size w w') :
    Calls Try.prog 35 #[.int .i64 q, .slice A ws.length cap] w (newPost w q ws) := h.mono (by
  rintro e w' ⟨rfl, hb⟩
  exact ⟨hb, fun _ => rfl, fun h => by rw [hn] at h; cases h⟩)
set_option maxHeartbeats 8000000 in
theorem new_any (q : Int) (ws : List Wr) (A : Option Addr) (cap : Nat) (w : World) (hr : Kd.C k31 w A ws.length ws) (hc : ws.length ≤ cap) (hn : ws.length ≤ 1000000) :
    Calls Try.prog 35 #[.int .i64 q, .slice A ws.length cap] w (newPost w q ws) := by
  have HRI := Aside0.mk (rises_any ws A cap w hr hc (by omega))
  by_cases h1 : 0 ≤ q
  case neg =>
    refine new_bad (by unfold newOk; rw [decide_eq_false h1]; rfl) ?_
    have d1 : decide (q < (0 : Int)) = true := decide_eq_true (by omega)
    clear hr h1
    go_enter Try.func35, Try.ntmps35
    go_wp2
    go_ret2
    exact ⟨rfl, Below.refl _ _⟩
  have d1 : decide (q < (0 : Int)) = false := decide_eq_false (by omega)
  by_cases h2 : q ≤ maxSeq
  case neg =>
    refine new_bad (by unfold newOk; rw [decide_eq_false h2]; simp) ?_
    have d2 : decide ((1099511627776 : Int) < q) = true := decide_eq_true (by unfold maxSeq at h2; omega)
    clear hr h1 h2
    go_enter Try.func35, Try.ntmps35
    go_wp2
    go_ret2
    exact ⟨rfl, Below.refl _ _⟩
  have d2 : decide ((1099511627776 : Int) < q) = false := decide_eq_false (by unfold maxSeq at h2; omega)
  cases h3 : rises ws with
  | false =>
    refine new_bad (by unfold newOk; rw [h3]; simp) ?_
    rw [h3] at HRI
    clear hr h1 h2
    go_enter Try.func35, Try.ntmps35
    go_wp2_with (first | (go_at_call 64; refine HRI.out.mono ?_; rintro e w1 ⟨rfl, hb⟩; have HB := Aside0.mk hb; clear hb))
    go_ret2
    exact ⟨rfl, HB.out⟩
  | true =>
    rw [h3] at HRI
    have HOK : Aside0 ((∀ i, i < ws.length → (wA ws i).f2 = false) → newOk q ws = true) := ⟨fun hg => by
      unfold newOk
      rw [decide_eq_true h1, decide_eq_true h2, h3]
      simp only [Bool.true_and, List.all_eq_true]
      intro x hx
      obtain ⟨j, hj, rfl⟩ := List.mem_iff_getElem.1 hx
      have := hg j hj
      rw [wA_eq hj] at this
      rw [this]
      rfl⟩
    have HR := Aside0.mk hr
    clear hr h1 h2 h3
    go_enter Try.func35, Try.ntmps35
    go_wp2_with (first | (go_at_call 64; refine HRI.out.mono ?_; rintro e w1 ⟨rfl, hb⟩; have HB := Aside0.mk hb; clear hb))
    have SC0 : Aside0 (∃ L, StoreC (fun k => w.heap.size ≤ k) (fun _ => 0) (w1.alloc (.cells #[.slice none 0 0, .int .i64 0, .int .i64 q, .slice none 0 0] 113)) w1.heap.size ⟨q, [], newAll q (ws.take 0)⟩ (.slice none 0 0) L) := ⟨⟨_, (new_start w1 q).turn (fun k _ h => Nat.le_trans HB.out.size h) (fun _ _ => rfl)⟩⟩
    have HB0 : Aside0 (Below w.heap.size w (w1.alloc (.cells #[.slice none 0 0, .int .i64 0, .int .i64 q, .slice none 0 0] 113))) := ⟨HB.out.alloc HB.out.size _⟩
    generalize w1.alloc (.cells #[.slice none 0 0, .int .i64 0, .int .i64 q, .slice none 0 0] 113) = W1 at *
    clear HB
    generalize w1.heap.size = s at *
    go_loopg [25] (ws.length + 1) (fun kq v25 wq => ∃ (i : Nat) (col : Nat → Nat), v25 = .int .i64 (i : Int) ∧ i ≤ ws.length ∧ ws.length - i < kq ∧ Aside0 (∃ L, StoreC (fun k => w.heap.size ≤ k) col wq s ⟨q, [], newAll q (ws.take i)⟩ (.slice none 0 0) L) ∧ Aside0 (Below w.heap.size w wq) ∧ Aside0 (∀ j, j < i → (wA ws j).f2 = false))
    case atStart => exact ⟨0, _, rfl, Nat.zero_le _, by omega, SC0, HB0, ⟨fun j hj => absurd hj (Nat.not_lt_zero _)⟩⟩
    case round =>
      clear SC0 HB0
      obtain ⟨i, col, rfl, hi, hk, HC, HB, HG⟩ := hrel
      have z0 : (0 : Int) ≤ (i : Int) := by omega
      by_cases hlt : i < ws.length
      · have z1 : (i : Int) < (ws.length : Int) := by omega
        obtain ⟨ad5, eA, f0, f1, f2⟩ := at_T31 (Kd.C_below HR.out HB.out) (i : Int) z0 z1
        rw [rd_wA, Int.toNat_natCast] at f0 f1 f2
        subst eA
        have HGB := Aside0.mk (gone_bad (q := q) hlt)
        have HNT := Aside0.mk (newAll_take (s := q) hlt)
        have HPT : Aside0 (∀ (W1 : World) (b : Nat), Below wr.heap.size wr W1 → wr.heap.size ≤ b → W1.heap[b]? = some (.cells #[.int .i64 q, .string (wA ws i).f1, .bool false] 118 (0, 0)) → ∃ col1, ∀ W', Below W1.heap.size W1 W' → Calls Try.prog 65 #[.pointer (some ⟨s, 0, none⟩), .string (wA ws i).f0, .slice (some ⟨b, 0, none⟩) 1 1] W' fun e w' => ∃ b, e = .returned (.bool b) ∧ (∃ L', StoreC (fun k => w.heap.size ≤ k) col1 w' s ⟨q, [], newAll q (ws.take (i + 1))⟩ (.slice none 0 0) L') ∧ Fr (fun k => w.heap.size ≤ k) W' w') := ⟨fun W1 b hb hbb hh => by
          obtain ⟨L, hsc⟩ := HC.out
          have hl := newAll_length q (ws.take i)
          rw [List.length_take] at hl
          have := st_put hsc (fun k hk => Nat.le_trans HB.out.size hk) (by show (newAll q (ws.take i)).length ≤ 2000000; omega) (Nat.le_refl _) hb (wA ws i).f0 (y := (some ⟨b, 0, none⟩, 1, 1)) (one_row hbb hh)
          rw [HNT.out]
          exact this⟩
        cases hg : (wA ws i).f2 with
        | true =>
          rw [hg] at f2
          have HBD := Aside0.mk (HGB.out hg)
          clear HPT HNT
          generalize wA ws i = x at *
          obtain ⟨d0, d1, d2⟩ := three_new wr 31 (.string x.f0) (.string x.f1) (.bool true)
          go_wp2
          go_ret2
          exact ⟨HB.out.alloc HB.out.size _, fun _ => rfl, fun h => by rw [HBD.out] at h; cases h⟩
        | false =>
          rw [hg] at f2
          have HG2 : Aside0 (∀ j, j < i + 1 → (wA ws j).f2 = false) := ⟨fun j hj => by
            by_cases e : j = i
            · rw [e]; exact hg
            · exact HG.out j (by omega)⟩
          clear HGB hg HG
          generalize wA ws i = x at HPT f0 f1 f2
          obtain ⟨d0, d1, d2⟩ := three_new wr 31 (.string x.f0) (.string x.f1) (.bool false)
          have hnew := heap_alloc_new (wr.alloc (.cells #[.string x.f0, .string x.f1, .bool false] 31)) (.cells #[.int .i64 q, .string x.f1, .bool false] 118)
          rw [World.size_alloc] at hnew
          have hb2 : Below wr.heap.size wr ((wr.alloc (.cells #[.string x.f0, .string x.f1, .bool false] 31)).alloc (.cells #[.int .i64 q, .string x.f1, .bool false] 118)) := below_alloc (below_alloc (Below.refl _ _) _) _
          obtain ⟨col1, hput⟩ := HPT.out _ (wr.heap.size + 1) hb2 (Nat.le_succ _) hnew
          have HPUT := Aside0.mk hput
          have HB2 := Aside0.mk hb2
          clear hput hb2 hnew HPT
          go_wp2
          go_region_law (first
            | (rw [if_pos (by rfl)]; go_simp; refine (HPUT.out _ (below_drew1 (Below.refl _ _))).mono ?_; rintro e w8 ⟨b8, rfl, hc8, hf8⟩
               have HC8 := Aside0.mk hc8
               have HB8 : Aside0 (Below w.heap.size w w8) := ⟨(HB.out.trans (HB2.out.mono HB.out.size)).trans ⟨hf8.os, hf8.tape, hf8.output, hf8.size, fun k hk => hf8.block k (Nat.lt_of_lt_of_le hk (Nat.le_trans HB.out.size HB2.out.size)) (fun (q : w.heap.size ≤ k) => by omega)⟩⟩
               clear hc8 hf8))
          all_goals
            go_wp2
            go_roundg (gk - 1)
            case measure => omega
            case rel => exact ⟨i + 1, col1, by go_num, by omega, by omega, HC8, HB8, HG2⟩
      · have hiz : i = ws.length := by omega
        subst hiz
        clear hi hlt
        go_wp2
        go_ret2
        rw [List.take_length] at HC
        refine ⟨HB.out, fun h => ?_, fun _ => ?_⟩
        · rw [HOK.out HG.out] at h
          cases h
        · obtain ⟨L, hsc⟩ := HC.out
          exact ⟨s, rfl, ⟨_, _, _, hsc⟩⟩
end Go.Proofs.Ytmafibbnojdpjaa.St
end
section
set_option linter.unusedVariables false
set_option maxRecDepth 100000
set_option linter.unusedSimpArgs false
namespace Go.Proofs.Ytmafibbnojdpjaa.St
open Go.Proofs.Ytmafibbnojdpjaa.Tr Go.RowKit Go.Proofs.YtmafibbnojdpjaaW.PrintWords Go.Proofs.YtmafibbnojdpjaaW.PrintLast Go.Proofs.YtmafibbnojdpjaaW.PrintMore Go.Proofs.Ytmafibbnojdpjaa.P
/-- commits one behind the other; none: one of them isn't taken -/
def runM (M : StM) : List Cm → Option StM
  | [] => some M
  | c :: cs => if goodC M c = true then runM (comM M c) cs else none
def stateM (q : Int) (ws : List Wr) (cs : List Cm) : Option StM := if newOk q ws = true then runM (newM q ws) cs else none
theorem run_append (M : StM) (a b : List Cm) : runM M (a ++ b) = (runM M a).bind fun M' => runM M' b := by
  induction a generalizing M with
  | nil => rfl
  | cons c a ih =>
    show (if goodC M c = true then runM (comM M c) (a ++ b) else none) = _
    show _ = (if goodC M c = true then runM (comM M c) a else none).bind _
    split
    · exact ih _
    · rfl
theorem run_take {M M' : StM} {cs : List Cm} {i : Nat} (hi : i < cs.length) (h : runM M (cs.take i) = some M') : runM M (cs.take (i + 1)) = if goodC M' cs[i] = true then some (comM M' cs[i]) else none := by
  rw [List.take_succ_eq_append_getElem hi, run_append, h]
  rfl
theorem run_none {M : StM} {cs : List Cm} {i : Nat} (h : runM M (cs.take i) = none) : runM M cs = none := by
  rw [← List.take_append_drop i cs, run_append, h]
  rfl
def cA (l : List Cm) (i : Nat) : Cm := l.getD i z28
theorem cA_eq {l : List Cm} {i : Nat} (h : i < l.length) : cA l i = l[i] := by simp [cA, List.getD, h]
theorem rd_cA (l : List Cm) (i : Nat) : rd_T28 l (i : Int) = cA l i := by simp [rd_T28, cA]
def statePost (w : World) (r : Option StM) (e : Ending) (w' : World) : Prop :=
  Below w.heap.size w w' ∧ (r = none → e = .returned (.tuple #[.pointer none, .int .i64 1])) ∧
    (∀ M, r = some M → ∃ s, e = .returned (.tuple #[.pointer (some ⟨s, 0, none⟩), .int .i64 0]) ∧ StoreAt (fun k => w.heap.size ≤ k) w' s M ∧ Inv M)
theorem fr_below {G : Nat → Prop} {w a b : World} (hG : ∀ k, G k → w.heap.size ≤ k) (h : Below w.heap.size w a) (hf : Fr G a b) : Below w.heap.size w b :=
  h.trans ⟨hf.os, hf.tape, hf.output, hf.size, fun k hk => hf.block k (Nat.lt_of_lt_of_le hk h.size) (fun q => by have := hG k q; omega)⟩
set_option maxHeartbeats 8000000 in
theorem state_any (q : Int) (ws : List Wr) (cs : List Cm) (A1 A2 : Option Addr) (c1 c2 : Nat) (w : World) (hr1 : Kd.C k31 w A1 ws.length ws) (hc1 : ws.length ≤ c1) (hn1 : ws.length ≤ 1000)
    (hr2 : Kd.C k28 w A2 cs.length cs) (hc2 : cs.length ≤ c2) (hn2 : cs.length ≤ 1000) (hwl : ∀ i, i < cs.length → (cA cs i).f2.length < 4611686018427387904) :
    Calls Try.prog 23 #[.agg #[.int .i64 q, .slice A1 ws.length c1, .slice A2 cs.length c2]] w (statePost w (stateM q ws cs)) := by
  have hb0 : Below w.heap.size w (w.alloc (.cells #[.int .i64 q, .slice A1 ws.length c1, .slice A2 cs.length c2] 25)) := below_alloc (Below.refl _ _) _
  have HNW := Aside0.mk (new_any q ws A1 c1 _ (Kd.C_below hr1 hb0) hc1 (by omega))
  have HR2 := Aside0.mk hr2
  have HWL := Aside0.mk hwl
  have HB0 := Aside0.mk hb0
  obtain ⟨x0, x1, x2⟩ := three_new w 25 (.int .i64 q) (.slice A1 ws.length c1) (.slice A2 cs.length c2)
  clear hr1 hr2 hwl hb0
  cases hnew : newOk q ws with
  | false =>
    have e : stateM q ws cs = none := by unfold stateM; rw [hnew]; rfl
    rw [e]
    go_enter Try.func23, Try.ntmps23
    go_wp2_with (first | (go_at_call 35; refine HNW.out.mono ?_; rintro e w1 ⟨hb, h1, _⟩; obtain rfl := h1 hnew; have HB1 := Aside0.mk hb; clear hb h1))
    go_ret2
    exact ⟨below_step HB0.out HB1.out, fun _ => rfl, fun M h => by cases h⟩
  | true =>
    have HNK := Aside0.mk hnew
    have e : stateM q ws cs = runM (newM q ws) cs := by unfold stateM; rw [hnew]; rfl
    rw [e]
    clear e
    go_enter Try.func23, Try.ntmps23
    go_wp2_with (first | (go_at_call 35; refine HNW.out.mono ?_; rintro e w1 ⟨hb, _, h1⟩; obtain ⟨s, rfl, hs⟩ := h1 hnew; have x2 := up hb x2; have HB1 := Aside0.mk (below_step HB0.out hb); have HS0 := Aside0.mk hs; clear hb h1 hs))
    have hz : w.heap.size < (w.alloc (.cells #[.int .i64 q, .slice A1 ws.length c1, .slice A2 cs.length c2] 25)).heap.size := by rw [World.size_alloc]; exact Nat.lt_succ_self _
    have HS1 : Aside0 (StoreAt (fun k => w.heap.size < k) w1 s (newM q ws)) := ⟨HS0.out.turn (fun k _ h => Nat.lt_of_lt_of_le hz h)⟩
    have HI0 := Aside0.mk (inv_new hnew)
    have HKL : Aside0 ((newM q ws).K.length ≤ 1000 + 200 * 0) := ⟨by have := newAll_length q ws; show (newAll q ws).length ≤ _; omega⟩
    clear HS0 HNW hnew hz
    go_loopg [23] (cs.length + 1) (fun kq v23 wq => ∃ (i : Nat) (M : StM), v23 = .int .i64 (i : Int) ∧ i ≤ cs.length ∧ cs.length - i < kq ∧ Aside0 (runM (newM q ws) (cs.take i) = some M) ∧ Aside0 (StoreAt (fun k => w.heap.size < k) wq s M) ∧ Aside0 (Inv M) ∧ Aside0 (M.hist.length = i ∧ M.K.length ≤ 1000 + 200 * i) ∧ Aside0 (Below w.heap.size w wq))
    case atStart => exact ⟨0, newM q ws, rfl, Nat.zero_le _, by omega, ⟨rfl⟩, HS1, HI0, ⟨rfl, HKL.out⟩, HB1⟩
    case round =>
      clear HS1 HI0 HKL HB1
      obtain ⟨i, M, rfl, hi, hk, HRN, HS, HI, HSZ, HB⟩ := hrel
      have z0 : (0 : Int) ≤ (i : Int) := by omega
      by_cases hlt : i < cs.length
      · have z1 : (i : Int) < (cs.length : Int) := by omega
        obtain ⟨ad5, A5, c5, eA, f0, f1, f2, f3, f4⟩ := at_T28 (Kd.C_below HR2.out HB.out) (i : Int) z0 z1
        rw [rd_cA, Int.toNat_natCast] at f0 f1 f2
        rw [rd_cA] at f3 f4
        subst eA
        have hb2 : Below wr.heap.size wr (wr.alloc (.cells #[.int .i64 (cA cs i).f0, .int .i64 (cA cs i).f1, .slice A5 (cA cs i).f2.length c5] 28)) := below_alloc (Below.refl _ _) _
        have HCM := Aside0.mk (com_any (HS.out.below hb2) HI.out (fun k hk => by have h1 := HB.out.size; have h2 := hb2.size; have h3 := HB0.out.size; show w.heap.size < k; have h4 := World.size_alloc wr (.cells #[.int .i64 (cA cs i).f0, .int .i64 (cA cs i).f1, .slice A5 (cA cs i).f2.length c5] 28); omega) ⟨by have := HSZ.out.1; omega, by have := HSZ.out.2; omega⟩ (cA cs i) A5 c5 (Kd.C_below f4 hb2) f3 (HWL.out i hlt))
        have HRT := Aside0.mk (run_take hlt HRN.out)
        rw [← cA_eq hlt] at HRT
        have HGW : Aside0 (goodC M (cA cs i) = true → (cA cs i).f2.length ≤ 200) := ⟨fun h => by
          have := (goodC_iff.1 h).2.2.2.2.1
          unfold rightW at this
          rw [Bool.and_eq_true, decide_eq_true_eq] at this
          exact this.1⟩
        have HNN : Aside0 (∀ M' , runM (newM q ws) (cs.take (i + 1)) = none → runM (newM q ws) cs = some M' → False) := ⟨fun M' h1 h2 => by rw [run_none h1] at h2; cases h2⟩
        have HB2 := Aside0.mk (HB.out.trans (hb2.mono HB.out.size))
        clear f3 f4 hb2
        obtain ⟨d0, d1, d2⟩ := three_new wr 28 (.int .i64 (cA cs i).f0) (.int .i64 (cA cs i).f1) (.slice A5 (cA cs i).f2.length c5)
        cases hg : goodC M (cA cs i) with
        | true =>
          have HI2 := Aside0.mk (inv_com HI.out hg)
          rw [hg, if_pos rfl] at HRT
          have hW := HGW.out hg
          have HK2 : Aside0 ((comM M (cA cs i)).hist.length = i + 1 ∧ (comM M (cA cs i)).K.length ≤ 1000 + 200 * (i + 1)) := ⟨by
            have h1 := putAll_length (s := (cA cs i).f0) (cA cs i).f2 M.K
            refine ⟨by simp [comM, HSZ.out.1], ?_⟩
            show (putAll (cA cs i).f0 M.K (cA cs i).f2).length ≤ _
            have := HSZ.out.2
            omega⟩
          unfold errC stepM at HCM
          rw [hg, if_pos rfl, if_pos rfl] at HCM
          generalize comM M (cA cs i) = M2 at *
          clear hg hW
          generalize cA cs i = x at *
          go_wp2_with (first | (go_at_call 36; refine HCM.out.mono ?_; rintro e w5 ⟨rfl, hs5, hf5⟩; have HS5 := Aside0.mk hs5; have HB5 := Aside0.mk (fr_below (fun k hk => Nat.le_of_lt hk) HB2.out hf5); clear hs5 hf5))
          go_roundg (gk - 1)
          case measure => omega
          case rel => exact ⟨i + 1, M2, by go_num, by omega, by omega, HRT, HS5, HI2, HK2, HB5⟩
        | false =>
          rw [hg, if_neg (by decide)] at HRT
          unfold errC stepM at HCM
          rw [hg, if_neg (by decide), if_neg (by decide)] at HCM
          clear hg
          generalize cA cs i = x at *
          go_wp2_with (first | (go_at_call 36; refine HCM.out.mono ?_; rintro e w5 ⟨rfl, hs5, hf5⟩; have HB5 := Aside0.mk (fr_below (fun k hk => Nat.le_of_lt hk) HB2.out hf5); clear hs5 hf5))
          go_ret2
          exact ⟨HB5.out, fun _ => rfl, fun M' h => (HNN.out M' HRT.out h).elim⟩
      · have hiz : i = cs.length := by omega
        subst hiz
        clear hi hlt
        go_wp2
        go_ret2
        have h1 := HRN.out
        rw [List.take_length] at h1
        refine ⟨HB.out, fun h => ?_, fun M' h => ?_⟩
        · rw [h1] at h
          cases h
        · rw [h1] at h
          cases h
          exact ⟨s, rfl, HS.out.turn (fun k _ h => Nat.le_of_lt h), HI.out⟩
end Go.Proofs.Ytmafibbnojdpjaa.St
end
