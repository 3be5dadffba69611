/- Claims, by hand: who is at which keys; New, Take, Busy, Len. -/
import Derived.Test.YtpfpejkndjdgkaaProg
import Derived.Test.YtpfpejkndjdgkaaWWords
import Derived.Test.YtpfpejkndjdgkaaWLast
import Derived.Test.YtpfpejkndjdgkaaWMore
import Derived.Tactics
import Derived.WalkKit
import Derived.Outline
import Derived.Deep.LoopGhost
import Derived.Deep.QuietTactic
import Derived.WalkLawsBesides
import Derived.Maps.OwnIn
import Derived.StringKeys
import Derived.RangeFuncBox
import Derived.Sort.KeysCollected
set_option linter.unusedVariables false
set_option linter.unusedSimpArgs false
namespace Go.Proofs.Ytpfpejkndjdgkaa.Q
open Go.RowKit Go.Maps Go.WideMaps Go.Proofs.YtpfpejkndjdgkaaW.PrintWords Go.Proofs.YtpfpejkndjdgkaaW.PrintLast Go.Proofs.YtpfpejkndjdgkaaW.PrintMore

abbrev Pair := ByteArray × Int
def hasC (C : List Pair) (x : ByteArray) : Bool := C.any fun a => decide (a.1 = x)
def valC (C : List Pair) (x : ByteArray) : Int := ((C.find? fun a => decide (a.1 = x)).map (·.2)).getD 0
def NdC (C : List Pair) : Prop := C.Pairwise fun a b => a.1 ≠ b.1
def takeC (C : List Pair) (who : Int) (x : ByteArray) : Bool × List Pair := if hasC C x = true then (decide (valC C x = who), C) else (true, C ++ [(x, who)])
def busyC (C : List Pair) (who : Int) (x : ByteArray) : Bool := hasC C x && decide (¬ valC C x = who)
def freeC (C : List Pair) (who : Int) : List Pair := C.filter fun a => decide (¬ a.2 = who)
def ofC (C : List Pair) (who : Int) : List (List UInt8) := ((C.filter fun a => decide (a.2 = who)).map fun a => a.1.data.toList).mergeSort leB
theorem hasC_iff {C : List Pair} {x : ByteArray} : hasC C x = true ↔ ∃ a ∈ C, a.1 = x := by simp [hasC]
theorem valC_of {C : List Pair} (h : NdC C) {a : Pair} (ha : a ∈ C) : valC C a.1 = a.2 := by
  unfold valC
  induction C with
  | nil => cases ha
  | cons b C ih =>
    rw [List.find?_cons]
    rcases List.mem_cons.1 ha with rfl | ha'
    · simp
    · have hne : ¬ b.1 = a.1 := (List.pairwise_cons.1 h).1 a ha'
      simp only [hne, decide_false]
      exact ih (List.pairwise_cons.1 h).2 ha'
theorem valC_none {C : List Pair} {x : ByteArray} (h : hasC C x = false) : valC C x = 0 := by
  unfold valC
  rw [List.find?_eq_none.2]
  · rfl
  · intro a ha e
    unfold hasC at h
    rw [List.any_eq_false] at h
    exact h a ha e
theorem ndC_add {C : List Pair} (h : NdC C) {x : ByteArray} (y : Int) (hx : hasC C x = false) : NdC (C ++ [(x, y)]) := by
  unfold NdC at *
  rw [List.pairwise_append]
  refine ⟨h, by simp, fun a ha b hb => ?_⟩
  rw [List.mem_singleton] at hb
  subst hb
  intro e
  rw [hasC_iff.2 ⟨a, ha, e⟩] at hx
  cases hx
theorem hasC_add {C : List Pair} {x z : ByteArray} {y : Int} : hasC (C ++ [(x, y)]) z = (hasC C z || decide (x = z)) := by simp [hasC]
theorem valC_add_same {C : List Pair} (h : NdC C) {x : ByteArray} (y : Int) (hx : hasC C x = false) : valC (C ++ [(x, y)]) x = y := valC_of (ndC_add h y hx) (a := (x, y)) (by simp)
theorem valC_add_other {C : List Pair} {x z : ByteArray} (y : Int) (hz : z ≠ x) : valC (C ++ [(x, y)]) z = valC C z := by
  unfold valC
  rw [List.find?_append]
  cases hf : C.find? (fun a => decide (a.1 = z)) with
  | some a => simp
  | none => simp [Ne.symm hz]
theorem ndC_free {C : List Pair} (h : NdC C) (who : Int) : NdC (freeC C who) := List.Pairwise.filter _ h
-- the map
theorem zero3 (w : World) : (zeroValue 3).run Try.prog w = .ok (.int .i64 0) w := by kernel_rfl
theorem keyed9 : Keyed Try.prog 9 := string_keyed Try.underlying9
abbrev lk (x : ByteArray) : Lit := .string x.data.toList
theorem ext_data {x y : ByteArray} (e : x.data.toList = y.data.toList) : x = y := by
  cases x
  cases y
  simp at e
  rw [e]
theorem lk_ne {x y : ByteArray} (h : x ≠ y) : lk x ≠ lk y := fun e => h (ext_data (by simpa using e))
theorem lit_inj {c d : Int} (h : (DataW.lit (.int .i64 c) : DataW Unit) = .lit (.int .i64 d)) : c = d := by
  cases h
  rfl
structure MapC (w : World) (b n : Nat) (C : List Pair) (D : DataW Unit) : Prop where
  own : w.ownsMap Try.prog 9 (plainElem Try.prog 3) b n D
  hs : ∀ x, Maps.has D (lk x) = hasC C x
  at' : ∀ x, D.atKey (lk x) (.lit (.int .i64 0)) = .lit (.int .i64 (valC C x))
  sz : Maps.size D = C.length
  nd : NdC C
variable {w w' : World} {b n : Nat} {C : List Pair} {D : DataW Unit}
theorem MapC.new (w : World) : MapC (w.alloc (.map #[] 0)) w.heap.size 0 [] (.map []) :=
  ⟨World.ownsMap_made w Try.prog 9 (plainElem Try.prog 3), fun x => rfl, fun x => rfl, rfl, List.Pairwise.nil⟩
theorem MapC.same (h : MapC w b n C D) (hb : w'.heap[b]? = w.heap[b]?) : MapC w' b n C D := by
  obtain ⟨es, clock, q1, q2⟩ := h.own
  exact ⟨⟨es, clock, hb.trans q1, q2⟩, h.hs, h.at', h.sz, h.nd⟩
theorem MapC.mono (h : MapC w b n C D) {n' : Nat} (hn : n ≤ n') : MapC w b n' C D := ⟨h.own.mono hn, h.hs, h.at', h.sz, h.nd⟩
theorem MapC.lt (h : MapC w b n C D) : b < w.heap.size := h.own.lt
theorem MapC.look2 (h : MapC w b n C D) {x : ByteArray} (hx : x.size ≤ maxLen) : (Instr.lookup 28 (.map (some b)) (.string x) true).run Try.prog w = .ok (.tuple #[.int .i64 (valC C x), .bool (hasC C x)]) w := by
  obtain ⟨v, ps, hrun, hv⟩ := h.own.look_ok keyed9 Try.underlying28 (zero3 w) (plainElem_int Try.underlying3 (by decide)) (keyOf_string_mk Try.underlying9 hx)
  obtain ⟨c, rfl, hc, hwc⟩ := plainElem_int_inv Try.underlying3 hv
  have e := (show D.atKey (lk x) (.lit (.int .i64 0)) = .lit (.int .i64 c) from congrArg Prod.fst hc).symm.trans (h.at' x)
  rw [lit_inj e, show Maps.has D (Lit.string x.data.toList) = hasC C x from h.hs x] at hrun
  exact hrun
theorem MapC.len (h : MapC w b n C D) (ty : TypeId) : (Builtin.len_ #[28] ty #[.map (some b)]).run Try.prog w = .ok (.int .i64 (C.length : Int)) w := by
  rw [← h.sz]
  exact h.own.len Try.underlying28 ty
theorem MapC.put (h : MapC w b n C D) (hn : n < maxLen) {x : ByteArray} (hx : x.size ≤ maxLen) {y : Int} (hy : (Lit.int .i64 y).wf = true) (hno : hasC C x = false) :
    ∃ w' D', (Instr.mapUpdate 28 (.map (some b)) (.string x) (.int .i64 y)).run Try.prog w = .ok () w' ∧ MapC w' b (n + 1) (C ++ [(x, y)]) D' ∧ w.grownBy w' (some b) := by
  have hk := keyOf_string_mk Try.underlying9 hx
  obtain ⟨w', hrun, ho, hg⟩ := h.own.update keyed9 Try.underlying28 hn hk (plainElem_int Try.underlying3 hy)
  refine ⟨w', _, hrun, ⟨ho, fun z => ?_, fun z => ?_, ?_, ndC_add h.nd y hno⟩, hg⟩
  · rw [hasC_add]
    by_cases e : z = x
    · subst e
      rw [show Maps.has (D.put (Lit.string z.data.toList) (.lit (.int .i64 y))) (lk z) = true from has_put_same h.own.isMap (keyed9.key hk) _]
      simp
    · rw [show Maps.has (D.put (Lit.string x.data.toList) (.lit (.int .i64 y))) (lk z) = Maps.has D (lk z) from has_put_other (lk_ne e) _, h.hs z]
      simp [Ne.symm e]
  · by_cases e : z = x
    · subst e
      rw [valC_add_same h.nd y hno]
      exact atKey_put_same h.own.isMap (keyed9.key hk) _ _
    · rw [valC_add_other y e, ← h.at' z]
      exact atKey_put_other (lk_ne e) _ _
  · rw [size_put (h.own.tidy keyed9), show Maps.has D (Lit.string x.data.toList) = hasC C x from h.hs x, hno, h.sz]
    simp
/-- the claims at block p, whose map is block b -/
structure ClaimAt (w : World) (p b n : Nat) (C : List Pair) : Prop where
  head : w.heap[p]? = some (.cells #[.map (some b)] 57 (0, 0))
  map : ∃ D, MapC w b n C D
variable {p : Nat}
theorem ClaimAt.lt (h : ClaimAt w p b n C) : p < w.heap.size := (Array.getElem?_eq_some_iff.1 h.head).1
theorem ClaimAt.mlt (h : ClaimAt w p b n C) : b < w.heap.size := by obtain ⟨D, hm⟩ := h.map; exact hm.lt
theorem ClaimAt.nd (h : ClaimAt w p b n C) : NdC C := by obtain ⟨D, hm⟩ := h.map; exact hm.nd
theorem ClaimAt.same (h : ClaimAt w p b n C) (h1 : w'.heap[p]? = w.heap[p]?) (h2 : w'.heap[b]? = w.heap[b]?) : ClaimAt w' p b n C := ⟨h1.trans h.head, by obtain ⟨D, hm⟩ := h.map; exact ⟨D, hm.same h2⟩⟩
theorem ClaimAt.below (h : ClaimAt w p b n C) (hb : Below w.heap.size w w') : ClaimAt w' p b n C := h.same (hb.block p h.lt) (hb.block b h.mlt)
theorem ClaimAt.mono (h : ClaimAt w p b n C) {n' : Nat} (hn : n ≤ n') : ClaimAt w p b n' C := ⟨h.head, by obtain ⟨D, hm⟩ := h.map; exact ⟨D, hm.mono hn⟩⟩
theorem ClaimAt.ne (h : ClaimAt w p b n C) : p ≠ b := by
  obtain ⟨D, ⟨es, clock, q1, q2⟩, _⟩ := h.map
  intro e
  have := h.head
  rw [e, q1] at this
  cases this
theorem ClaimAt.c0 (h : ClaimAt w p b n C) : w.cell? ⟨p, 0, none⟩ = some (.map (some b)) := by simp [World.cell?, h.head]
set_option maxHeartbeats 1000000 in
theorem new_any (w : World) : Calls Try.prog 9 #[] w fun e w' => e = .returned (.pointer (some ⟨w.heap.size + 1, 0, none⟩)) ∧ ClaimAt w' (w.heap.size + 1) w.heap.size 0 [] ∧ Below w.heap.size w w' := by
  have hmm := @run_makeMap Try.prog
  go_enter Try.func9, Try.ntmps9
  go_wp2
  go_ret
  have hb : Below (w.alloc (.map #[] 0)).heap.size (w.alloc (.map #[] 0)) ((w.alloc (.map #[] 0)).alloc (.cells #[.map (some w.heap.size)] 57)) := below_alloc (Below.refl _ _) _
  have h1 := heap_alloc_new (w.alloc (.map #[] 0)) (.cells #[.map (some w.heap.size)] 57)
  rw [World.size_alloc] at h1
  exact ⟨rfl, ⟨h1, _, (MapC.new w).same (hb.block _ (by simp))⟩, (below_alloc (Below.refl _ _) _).trans (hb.mono (by simp))⟩
set_option maxHeartbeats 1000000 in
theorem take_nil (who : Int) (x : ByteArray) (w : World) : Calls Try.prog 12 #[.pointer none, .int .i64 who, .string x] w fun e w' => e = .returned (.bool false) ∧ w' = w := by
  go_enter Try.func12, Try.ntmps12
  go_wp2
  go_ret
  exact ⟨rfl, rfl⟩
set_option maxHeartbeats 1000000 in
theorem take_any (h : ClaimAt w p b n C) (hn : n < maxLen) (who : Int) (hw : (Lit.int .i64 who).wf = true) {x : ByteArray} (hx : x.size ≤ maxLen) :
    Calls Try.prog 12 #[.pointer (some ⟨p, 0, none⟩), .int .i64 who, .string x] w fun e w' => e = .returned (.bool (takeC C who x).1) ∧ ClaimAt w' p b (n + 1) (takeC C who x).2 ∧ w.grownBy w' (some b) := by
  obtain ⟨D, hm⟩ := h.map
  have c0 := h.c0
  have l1 := hm.look2 hx
  have H := Aside0.mk h
  cases hh : hasC C x with
  | true =>
    rw [hh] at l1
    have e1 : takeC C who x = (decide (valC C x = who), C) := by unfold takeC; rw [if_pos hh]
    rw [e1]
    clear hm hh e1 h
    by_cases hv : valC C x = who
    · have hd : decide (valC C x = who) = true := decide_eq_true hv
      have hb : (valC C x == who) = true := by simpa using hv
      rw [hv] at l1 ⊢
      clear hd hb hv
      go_enter Try.func12, Try.ntmps12
      go_wp2
      go_ret
      exact ⟨by simp, H.out.mono (Nat.le_succ _), ⟨rfl, rfl, rfl, Nat.le_refl _, fun _ _ _ => rfl⟩⟩
    · have hd : decide (valC C x = who) = false := decide_eq_false hv
      have hb : (valC C x == who) = false := by simpa using hv
      go_enter Try.func12, Try.ntmps12
      go_wp2
      go_ret
      exact ⟨by simp [hv], H.out.mono (Nat.le_succ _), ⟨rfl, rfl, rfl, Nat.le_refl _, fun _ _ _ => rfl⟩⟩
  | false =>
    rw [hh] at l1
    obtain ⟨w9, D9, u1, u2, u3⟩ := hm.put hn hx hw hh
    have e1 : takeC C who x = (true, C ++ [(x, who)]) := by unfold takeC; rw [if_neg (by rw [hh]; decide)]
    rw [e1]
    have U2 := Aside0.mk u2
    have U3 := Aside0.mk u3
    have hne := h.ne
    clear hm hh e1 h u2 u3
    go_enter Try.func12, Try.ntmps12
    go_wp2
    go_ret
    exact ⟨rfl, ⟨(U3.out.block p H.out.lt (fun e => hne (by cases e; rfl))).trans H.out.head, _, U2.out⟩, U3.out⟩
set_option maxHeartbeats 1000000 in
theorem busy_any (q : Option Addr) (who : Int) (w : World) : Calls Try.prog 10 #[.pointer q, .int .i64 who] w fun e w' =>
    e = .returned (.func (.func 22) #[] #[.pointer (some ⟨w.heap.size, 0, none⟩), .pointer (some ⟨w.heap.size + 1, 0, none⟩)]) ∧ w' = (w.alloc (.cells #[.pointer q] 24)).alloc (.cells #[.int .i64 who] 3) := by
  go_enter Try.func10, Try.ntmps10
  go_wp2
  go_ret
  exact ⟨rfl, rfl⟩
set_option maxHeartbeats 1000000 in
theorem busy1_nil (bc bw : Nat) (x : ByteArray) (w : World) (h1 : w.cell? ⟨bc, 0, none⟩ = some (.pointer none)) :
    Calls Try.prog 22 #[.string x, .pointer (some ⟨bc, 0, none⟩), .pointer (some ⟨bw, 0, none⟩)] w fun e w' => e = .returned (.bool false) ∧ w' = w := by
  go_enter Try.func22, Try.ntmps22
  go_wp2
  go_ret
  exact ⟨rfl, rfl⟩
set_option maxHeartbeats 1000000 in
theorem busy1_any (h : ClaimAt w p b n C) (bc bw : Nat) (who : Int) {x : ByteArray} (hx : x.size ≤ maxLen) (h1 : w.cell? ⟨bc, 0, none⟩ = some (.pointer (some ⟨p, 0, none⟩))) (h2 : w.cell? ⟨bw, 0, none⟩ = some (.int .i64 who)) :
    Calls Try.prog 22 #[.string x, .pointer (some ⟨bc, 0, none⟩), .pointer (some ⟨bw, 0, none⟩)] w fun e w' => e = .returned (.bool (busyC C who x)) ∧ w' = w := by
  obtain ⟨D, hm⟩ := h.map
  have c0 := h.c0
  have l1 := hm.look2 hx
  unfold busyC
  cases hh : hasC C x with
  | true =>
    rw [hh] at l1
    clear hm hh h
    by_cases hv : valC C x = who
    · rw [hv] at l1 ⊢
      clear hv
      go_enter Try.func22, Try.ntmps22
      go_wp2
      go_ret
      exact ⟨by simp, rfl⟩
    · have hb : (valC C x == who) = false := by simpa using hv
      go_enter Try.func22, Try.ntmps22
      go_wp2
      go_ret
      exact ⟨by simp [hv], rfl⟩
  | false =>
    rw [hh] at l1
    clear hm hh h
    go_enter Try.func22, Try.ntmps22
    go_wp2
    go_ret
    exact ⟨rfl, rfl⟩
set_option maxHeartbeats 1000000 in
theorem len_nilC (w : World) : Calls Try.prog 13 #[.pointer none] w fun e w' => e = .returned (.int .i64 0) ∧ w' = w := by
  go_enter Try.func13, Try.ntmps13
  go_wp2
  go_ret
  exact ⟨rfl, rfl⟩
set_option maxHeartbeats 1000000 in
theorem len_any (h : ClaimAt w p b n C) : Calls Try.prog 13 #[.pointer (some ⟨p, 0, none⟩)] w fun e w' => e = .returned (.int .i64 (C.length : Int)) ∧ w' = w := by
  obtain ⟨D, hm⟩ := h.map
  have c0 := h.c0
  have l1 := hm.len 3
  clear hm h
  go_enter Try.func13, Try.ntmps13
  go_wp2
  go_ret
  exact ⟨rfl, rfl⟩
end Go.Proofs.Ytpfpejkndjdgkaa.Q
