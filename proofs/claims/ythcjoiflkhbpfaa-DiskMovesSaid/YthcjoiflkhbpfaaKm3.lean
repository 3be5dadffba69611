/- Lemmas that the proof needs, part 3. -/
import Derived.Tactics
import Derived.WalkKit
import Derived.Outline
import Derived.Deep.LoopGhost
import Derived.Deep.QuietTactic
import Derived.WalkLawsBesides
import Derived.Test.YthcjoiflkhbpfaaWWords
import Derived.Test.YthcjoiflkhbpfaaKm1
import Derived.Test.YthcjoiflkhbpfaaKm2
section
set_option linter.unusedVariables false
set_option maxRecDepth 100000
set_option linter.unusedSimpArgs false
namespace Go.Proofs.Ythcjoiflkhbpfaa.Dk
open Go.RowKit Go.Maps Go.WideMaps Go.Proofs.YthcjoiflkhbpfaaW.PrintWords Go.Proofs.YthcjoiflkhbpfaaW.PrintLast Go.Proofs.YthcjoiflkhbpfaaW.PrintMore Go.Proofs.Ythcjoiflkhbpfaa.Mv
abbrev Fv := ByteArray × Int
def eF (x : Fv) : Value := .agg #[.string x.1, .int .i64 x.2]
noncomputable abbrev KS : KT Try.prog 9 ByteArray := KT.str Try.underlying9
def ent (l : List Fi) : List (ByteArray × Fv) := l.map fun f => (f.f0, (f.f1, f.f2))
theorem ent_len (l : List Fi) : (ent l).length = l.length := List.length_map _
theorem ent_find (l : List Fi) (x : ByteArray) : findC (ent l) x = (findF l x).map fun f => (f.f1, f.f2) := by
  unfold findC findF ent
  rw [List.find?_map, Option.map_map]
  rfl
theorem ent_nd {l : List Fi} (h : Srt l) : NdC (ent l) := by
  unfold NdC ent
  rw [List.pairwise_map]
  exact List.Pairwise.imp (fun {a b} hab => nl_ne hab) h
theorem mem_ent {l : List Fi} {a : ByteArray × Fv} : a ∈ ent l ↔ (⟨a.1, a.2.1, a.2.2⟩ : Fi) ∈ l := by
  unfold ent
  rw [List.mem_map]
  constructor
  · rintro ⟨f, hf, rfl⟩
    exact hf
  · intro h
    exact ⟨_, h, rfl⟩
theorem perm_of {C D : List (ByteArray × Fv)} (hC : NdC C) (hD : NdC D) (h : ∀ x, findC C x = findC D x) : C.Perm D := by
  refine perm_of_sub hD hC (fun a ha => ?_) (fun a ha => ?_)
  · have := Mv.find_of hC ha
    rw [h] at this
    exact Mv.find_mem this
  · have := Mv.find_of hD ha
    rw [← h] at this
    rw [this]
    rfl
theorem ent_put {l : List Fi} (h : Srt l) (f : Fi) : (putC (ent l) f.f0 (f.f1, f.f2)).Perm (ent (putF l f)) := by
  refine perm_of (nd_put (ent_nd h) _ _) (ent_nd (srt_put h f)) (fun x => ?_)
  rw [Mv.find_put, ent_find, ent_find, find_put h]
  by_cases e : x = f.f0
  · rw [if_pos e, if_pos e]
    rfl
  · rw [if_neg e, if_neg e]
theorem ent_del {l : List Fi} (h : Srt l) (x : ByteArray) : (delC (ent l) x).Perm (ent (dropF l x)) := by
  refine perm_of (nd_del (ent_nd h) _) (ent_nd (srt_drop h x)) (fun y => ?_)
  rw [Mv.find_del, ent_find, ent_find, find_drop h]
  by_cases e : y = x
  · rw [if_pos e, if_pos e]
    rfl
  · rw [if_neg e, if_neg e]
/-- the disk at block d, its files at block b -/
structure DiskC (w : World) (d b n : Nat) (M : DM) : Prop where
  head : w.heap[d]? = some (.cells #[.int .i64 M.size, .map (some b), .bool M.down, .int .i64 M.fall] 63 (0, 0))
  map : MapV KS eF w b n (ent M.fs)
  ok : OkM M
variable {w w' : World} {d b n : Nat} {M : DM}
theorem DiskC.lt (h : DiskC w d b n M) : d < w.heap.size := (Array.getElem?_eq_some_iff.1 h.head).1
theorem DiskC.mlt (h : DiskC w d b n M) : b < w.heap.size := h.map.lt
theorem DiskC.ne (h : DiskC w d b n M) : d ≠ b := by
  obtain ⟨D, ⟨es, clock, q1, q2⟩, _⟩ := h.map
  intro e
  have := h.head
  rw [e, q1] at this
  cases this
theorem DiskC.same (h : DiskC w d b n M) (h1 : w'.heap[d]? = w.heap[d]?) (h2 : w'.heap[b]? = w.heap[b]?) : DiskC w' d b n M := ⟨h1.trans h.head, h.map.same h2, h.ok⟩
theorem DiskC.below (h : DiskC w d b n M) (hb : Below w.heap.size w w') : DiskC w' d b n M := h.same (hb.block d h.lt) (hb.block b h.mlt)
theorem DiskC.mono (h : DiskC w d b n M) {n' : Nat} (hn : n ≤ n') : DiskC w d b n' M := ⟨h.head, h.map.mono hn, h.ok⟩
theorem DiskC.le (h : DiskC w d b n M) : M.fs.length ≤ n := by rw [← ent_len]; exact h.map.le
theorem DiskC.c0 (h : DiskC w d b n M) : w.cell? ⟨d, 0, none⟩ = some (.int .i64 M.size) := by simp [World.cell?, h.head]
theorem DiskC.c1 (h : DiskC w d b n M) : w.cell? ⟨d, 1, none⟩ = some (.map (some b)) := by simp [World.cell?, h.head]
theorem DiskC.c2 (h : DiskC w d b n M) : w.cell? ⟨d, 2, none⟩ = some (.bool M.down) := by simp [World.cell?, h.head]
theorem DiskC.c3 (h : DiskC w d b n M) : w.cell? ⟨d, 3, none⟩ = some (.int .i64 M.fall) := by simp [World.cell?, h.head]
theorem DiskC.fz (h : DiskC w d b n M) (i : Nat) : w.frozen? ⟨d, i, none⟩ = false := by simp [World.frozen?, h.head]
def two (d b : Nat) (k : Nat) : Prop := k = d ∨ k = b
theorem Fr.of_turned (h : w.mapTurned w' b) : Fr (two d b) w w' := ⟨h.grown.os, h.grown.tape, h.grown.output, h.grown.size, fun k hk hn => h.grown.block k hk (fun e => hn (.inr (by injection e)))⟩
def mxI (x y : Int) : Int := if x < y then y else x
def mnI (x y : Int) : Int := if y < x then y else x
theorem run_min (ats : Array TypeId) (ty : TypeId) (x y : Int) (w : World) : (Builtin.min_ ats ty #[.int .i64 x, .int .i64 y]).run Try.prog w = .ok (.int .i64 (mnI x y)) w := by
  rw [min_two, min2_int]
  rfl
theorem run_max (ats : Array TypeId) (ty : TypeId) (x y : Int) (w : World) : (Builtin.max_ ats ty #[.int .i64 x, .int .i64 y]).run Try.prog w = .ok (.int .i64 (mxI x y)) w := by
  rw [max_two, max2_int]
  rfl
theorem mnI_eq (x y : Int) : mnI x y = min x y := by unfold mnI; split <;> omega
theorem mxI_eq (x y : Int) : mxI x y = max x y := by unfold mxI; split <;> omega
set_option maxHeartbeats 1000000 in
theorem disk_new (x : Int) (w : World) : Calls Try.prog 11 #[.int .i64 x] w fun e w' => e = .returned (.pointer (some ⟨w.heap.size + 1, 0, none⟩)) ∧ DiskC w' (w.heap.size + 1) w.heap.size 0 (newM x) ∧ Below w.heap.size w w' := by
  have hmm := @run_makeMap Try.prog
  have e1 := fun ats ty => run_max ats ty x 0 w
  have e2 := fun ats ty => run_min ats ty (mxI x 0) 1048576 w
  have hb : Below (w.alloc (.map #[] 0)).heap.size (w.alloc (.map #[] 0)) ((w.alloc (.map #[] 0)).alloc (.cells #[.int .i64 (mnI (mxI x 0) 1048576), .map (some w.heap.size), .bool false, .int .i64 (-1)] 63)) := below_alloc (Below.refl _ _) _
  have h1 := heap_alloc_new (w.alloc (.map #[] 0)) (.cells #[.int .i64 (mnI (mxI x 0) 1048576), .map (some w.heap.size), .bool false, .int .i64 (-1)] 63)
  rw [World.size_alloc] at h1
  have HC : Aside0 (DiskC ((w.alloc (.map #[] 0)).alloc (.cells #[.int .i64 (mnI (mxI x 0) 1048576), .map (some w.heap.size), .bool false, .int .i64 (-1)] 63)) (w.heap.size + 1) w.heap.size 0 (newM x)) := ⟨⟨by rw [h1, mnI_eq, mxI_eq]; rfl, (MapV.new KS eF w).below hb, ok_new x⟩⟩
  have HB := Aside0.mk ((below_alloc (Below.refl w.heap.size w) (.map #[] 0)).trans (hb.mono (by simp)))
  clear hb h1
  go_enter Try.func11, Try.ntmps11
  go_wp2
  go_ret
  exact ⟨rfl, HC.out, HB.out⟩
set_option maxHeartbeats 1000000 in
theorem disk_down (h : DiskC w d b n M) : Calls Try.prog 14 #[.pointer (some ⟨d, 0, none⟩)] w fun e w' => e = .returned (.bool M.down) ∧ w' = w := by
  have c2 := h.c2
  clear h
  go_enter Try.func14, Try.ntmps14
  go_wp2
  go_ret
  exact ⟨rfl, rfl⟩
set_option maxHeartbeats 2000000 in
theorem disk_turn (h : DiskC w d b n M) : Calls Try.prog 28 #[.pointer (some ⟨d, 0, none⟩)] w fun e w' => e = .returned (.int .i64 (if out M then 8 else 0)) ∧ DiskC w' d b n (if out M then gone M else went M) ∧ Fr (two d b) w w' := by
  have c2 := h.c2
  have c3 := h.c3
  have fz2 := h.fz 2
  have fz3 := h.fz 3
  have HH := Aside0.mk h
  cases hd : M.down with
  | true =>
    have ho : out M = true := by unfold out; rw [hd]; rfl
    have hg : gone M = M := by unfold gone; rw [← hd]
    rw [if_pos ho, if_pos ho, hg]
    rw [hd] at c2
    clear h hd ho hg
    go_enter Try.func28, Try.ntmps28
    go_wp2
    go_ret
    exact ⟨rfl, HH.out, Fr.refl _ _⟩
  | false =>
    rw [hd] at c2
    by_cases h0 : M.fall = 0
    · have ho : out M = true := by unfold out; rw [hd, h0]; rfl
      rw [if_pos ho, if_pos ho]
      have hset := heap_setCell_at w d 2 _ _ _ (.bool true) h.head
      have HC : Aside0 (DiskC (w.setCell ⟨d, 2, none⟩ (.bool true)) d b n (gone M)) := ⟨⟨by rw [hset]; rfl, h.map.same (Below.heap_setCell w _ _ b (Ne.symm h.ne)), ok_gone h.ok⟩⟩
      have b0 : (M.fall == 0) = true := by rw [h0]; rfl
      clear h hset ho hd h0
      go_enter Try.func28, Try.ntmps28
      go_wp2
      go_ret
      exact ⟨rfl, HC.out, Fr.setCell _ _ _ _ (.inl rfl)⟩
    · have ho : ¬ out M = true := by unfold out; rw [hd]; simp [h0]
      rw [if_neg ho, if_neg ho]
      have b0 : (M.fall == 0) = false := by simpa using h0
      by_cases h1 : 0 < M.fall
      · have hf := h.ok.fall
        have hw : IntKind.i64.wrap (M.fall - 1) = M.fall - 1 := by rw [IntKind.wrap_i64]; omega
        have hset := heap_setCell_at w d 3 _ _ _ (.int .i64 (M.fall - 1)) h.head
        have HC : Aside0 (DiskC (w.setCell ⟨d, 3, none⟩ (.int .i64 (M.fall - 1))) d b n (went M)) := ⟨⟨by rw [hset]; unfold went; rw [if_pos h1]; rfl, by rw [went_fs]; exact h.map.same (Below.heap_setCell w _ _ b (Ne.symm h.ne)), ok_went h.ok⟩⟩
        have b1 : decide (0 < M.fall) = true := decide_eq_true h1
        clear h hset ho hd h0 hf
        go_enter Try.func28, Try.ntmps28
        go_wp2
        go_ret
        exact ⟨rfl, HC.out, Fr.setCell _ _ _ _ (.inl rfl)⟩
      · have hw : went M = M := by unfold went; rw [if_neg h1]
        rw [hw]
        have b1 : decide (0 < M.fall) = false := decide_eq_false h1
        clear h ho hd h0 hw
        go_enter Try.func28, Try.ntmps28
        go_wp2
        go_ret
        exact ⟨rfl, HH.out, Fr.refl _ _⟩
end Go.Proofs.Ythcjoiflkhbpfaa.Dk
end
section
set_option linter.unusedVariables false
set_option maxRecDepth 100000
set_option linter.unusedSimpArgs false
namespace Go.Proofs.Ythcjoiflkhbpfaa.Dk
open Go.RowKit Go.Maps Go.WideMaps Go.Proofs.YthcjoiflkhbpfaaW.PrintWords Go.Proofs.YthcjoiflkhbpfaaW.PrintLast Go.Proofs.YthcjoiflkhbpfaaW.PrintMore Go.Proofs.Ythcjoiflkhbpfaa.Mv
variable {w w' : World} {d b n : Nat} {M : DM}
def sumE (C : List (ByteArray × Fv)) : Int := (C.map fun a => (a.2.1.size : Int)).sum
theorem sumE_snoc (C : List (ByteArray × Fv)) (a : ByteArray × Fv) : sumE (C ++ [a]) = sumE C + a.2.1.size := by simp [sumE]
theorem sumE_ent (l : List Fi) : sumE (ent l) = sumD l := by
  unfold sumE ent sumD
  rw [List.map_map]
  rfl
theorem sumE_perm {C D : List (ByteArray × Fv)} (h : C.Perm D) : sumE C = sumE D := by
  induction h with
  | nil => rfl
  | cons x _ ih => simp only [sumE, List.map_cons, List.sum_cons] at *; omega
  | swap x y l => simp only [sumE, List.map_cons, List.sum_cons]; omega
  | trans _ _ i1 i2 => rw [i1, i2]
theorem sumE_le (C : List (ByteArray × Fv)) (h : ∀ a ∈ C, a.2.1.size ≤ 1048576) : 0 ≤ sumE C ∧ sumE C ≤ 1048576 * (C.length : Int) := by
  induction C with
  | nil => exact ⟨Int.le_refl _, Int.le_refl _⟩
  | cons a C ih =>
    have h1 := ih (fun x hx => h x (List.mem_cons_of_mem _ hx))
    have h2 := h a (List.mem_cons_self ..)
    simp only [sumE, List.map_cons, List.sum_cons, List.length_cons] at *
    omega
theorem file_le (h : OkM M) {f : Fi} (hf : f ∈ M.fs) : (f.f1.size : Int) ≤ 1048576 := by
  have hr := h.room
  have hz := h.size
  obtain ⟨i, hi, rfl⟩ := List.mem_iff_getElem.1 hf
  have e : M.fs = M.fs.take i ++ M.fs[i] :: M.fs.drop (i + 1) := by rw [← List.drop_eq_getElem_cons hi, List.take_append_drop]
  have e2 := congrArg sumD e
  rw [sumD_append, sumD_cons] at e2
  have h1 := sumD_nonneg (M.fs.take i)
  have h2 := sumD_nonneg (M.fs.drop (i + 1))
  unfold roomM at hr
  omega
/-- two cells of a new block -/
theorem two_new (w : World) (t : TypeId) (x y : Value) : (w.alloc (.cells #[x, y] t)).cell? ⟨w.heap.size, 0, none⟩ = some x ∧ (w.alloc (.cells #[x, y] t)).cell? ⟨w.heap.size, 1, none⟩ = some y := by
  have hh := heap_alloc_new w (.cells #[x, y] t)
  exact ⟨(cell_of_row _ _ _ _ _ _ hh).trans rfl, (cell_of_row _ _ _ _ _ _ hh).trans rfl⟩
set_option maxHeartbeats 2000000 in
theorem disk_room (h : DiskC w d b n M) (hn : n ≤ 1000000) : Calls Try.prog 17 #[.pointer (some ⟨d, 0, none⟩)] w fun e w' => e = .returned (.int .i64 (roomM M)) ∧ Below w.heap.size w w' := by
  have c0 := h.c0
  have c1 := h.c1
  obtain ⟨w2, hrun, hrg, hb, hs⟩ := h.map.range Try.underlying61
  have HR0 := Aside0.mk hrg
  have HB0 := Aside0.mk hb
  have HSM : Aside0 (∀ dn : List (ByteArray × Fv), dn.Perm (ent M.fs) → M.size - sumE dn = roomM M) := ⟨fun dn hp => by rw [sumE_perm hp, sumE_ent]; rfl⟩
  have HLE : Aside0 (∀ a ∈ ent M.fs, a.2.1.size ≤ 1048576) := ⟨fun a ha => by
    have h1 := file_le h.ok (mem_ent.1 ha)
    have h2 : (a.2.1.size : Int) ≤ 1048576 := h1
    omega⟩
  have HLN : Aside0 ((ent M.fs).length ≤ 1000000) := ⟨by have := h.map.le; omega⟩
  have HSZ := Aside0.mk h.ok.size
  clear hrg hb hs h
  generalize ent M.fs = C at *
  generalize roomM M = rm at *
  generalize M.size = sz at *
  go_enter Try.func17, Try.ntmps17
  go_wp2
  go_loopg [3] (C.length + 1) (fun kq v3 wq => ∃ (dn : List (ByteArray × Fv)) (x : Int), v3 = .int .i64 x ∧ C.length - dn.length < kq ∧ Aside0 (x = sz - sumE dn) ∧ Aside0 (Rng KS eF wq b w.heap.size n C dn) ∧ Aside0 (Below w.heap.size w wq))
  case atStart => exact ⟨[], sz, rfl, by simp, ⟨by simp [sumE]⟩, HR0, HB0⟩
  case round =>
    clear HR0 HB0 hrun c0 c1
    obtain ⟨dn, x, rfl, hk, HX, HR, HB⟩ := hrel
    rcases HR.out.next 0 with ⟨hp, hrun⟩ | ⟨a, w3, ha, hna, hok, hrun, hr3, hg3, hs3, hen⟩
    · have hx := HX.out.trans (HSM.out dn hp)
      subst hx
      clear hp
      go_wp2
      go_ret
      exact ⟨rfl, HB.out⟩
    · change (Instr.next (.pointer (some ⟨w.heap.size, 0, none⟩)) false 0).run Try.prog wr = .ok (.tuple #[.bool true, .string a.1, .agg #[.string a.2.1, .int .i64 a.2.2]]) w3 at hrun
      change (Instr.entry (.pointer (some ⟨w.heap.size, 0, none⟩))).run Try.prog w3 = .ok (.tuple #[.string a.1, .agg #[.string a.2.1, .int .i64 a.2.2]]) w3 at hen
      have hl := hr3.len
      have hsub := hr3.sub
      rw [List.length_append, List.length_singleton] at hl
      obtain ⟨d0, d1⟩ := two_new w3 66 (.string a.2.1) (.int .i64 a.2.2)
      have hb4 : Below w3.heap.size w3 (w3.alloc (.cells #[.string a.2.1, .int .i64 a.2.2] 66)) := below_alloc (Below.refl _ _) _
      have HR3 := Aside0.mk (hr3.below hb4)
      have hb3 : Below w.heap.size w w3 := HB.out.grown hg3 HB.out.size (fun k e => by cases e; exact Nat.le_refl _)
      have HB3 := Aside0.mk (below_step hb3 hb4)
      have hsl := sumE_le dn (fun y hy => HLE.out y (hsub y (List.mem_append_left _ hy)))
      have hw : IntKind.i64.wrap (x - (a.2.1.size : Int)) = x - (a.2.1.size : Int) := by
        have := HLE.out a ha
        have := HLN.out
        have := HSZ.out
        have := HX.out
        rw [IntKind.wrap_i64]
        omega
      have HX3 : Aside0 (x - (a.2.1.size : Int) = sz - sumE (dn ++ [a])) := ⟨by rw [sumE_snoc, HX.out]; omega⟩
      clear hr3 hg3 ha hna hok hs3 hb3 hb4 hsl hsub
      go_wp2
      go_roundg (gk - 1)
      case measure => omega
      case rel => exact ⟨dn ++ [a], _, rfl, by rw [List.length_append, List.length_singleton]; omega, HX3, HR3, HB3⟩
theorem zero66 (w : World) : (zeroValue 66).run Try.prog w = .ok (.agg #[.string ⟨#[]⟩, .int .i64 0]) w := Try.zeroValue66 w
/-- what a look into the files gives -/
def lkF (o : Option Fi) : Fv := (o.map fun f => (f.f1, f.f2)).getD (⟨#[]⟩, 0)
theorem look_run (h : DiskC w d b n M) {x : ByteArray} (hx : x.size ≤ maxLen) : (Instr.lookup 61 (.map (some b)) (.string x) false).run Try.prog w = .ok (.agg #[.string (lkF (findF M.fs x)).1, .int .i64 (lkF (findF M.fs x)).2]) w := by
  have := h.map.look Try.underlying61 (zero66 w) (x := x) hx
  rw [ent_find] at this
  refine this.trans ?_
  cases findF M.fs x <;> rfl
theorem look2_run (h : DiskC w d b n M) {x : ByteArray} (hx : x.size ≤ maxLen) : (Instr.lookup 61 (.map (some b)) (.string x) true).run Try.prog w = .ok (.tuple #[.agg #[.string (lkF (findF M.fs x)).1, .int .i64 (lkF (findF M.fs x)).2], .bool (findF M.fs x).isSome]) w := by
  have := h.map.look2 Try.underlying61 (zero66 w) (x := x) hx
  rw [ent_find] at this
  refine this.trans ?_
  cases findF M.fs x <;> rfl
set_option maxHeartbeats 1000000 in
theorem disk_has (h : DiskC w d b n M) {x : ByteArray} (hx : x.size ≤ maxLen) : Calls Try.prog 31 #[.pointer (some ⟨d, 0, none⟩), .string x] w fun e w' => e = .returned (.bool (findF M.fs x).isSome) ∧ Below w.heap.size w w' := by
  have c1 := h.c1
  have l1 := look2_run h hx
  have HB : Aside0 (∀ o : Obj, Below w.heap.size w (w.alloc o)) := ⟨fun o => below_alloc (Below.refl _ _) o⟩
  clear h
  generalize lkF (findF M.fs x) = v at *
  generalize (findF M.fs x).isSome = s at *
  go_enter Try.func31, Try.ntmps31
  go_wp2
  go_ret
  exact ⟨rfl, HB.out _⟩
theorem field66 (a : ByteArray) (b : Int) (w : World) : (Instr.field 66 (.agg #[.string a, .int .i64 b]) 0).run Try.prog w = .ok (.string a) w := by kernel_rfl
def readE (M : DM) (x : ByteArray) : Int := if M.down then 8 else if (findF M.fs x).isSome then 0 else 5
def readV (M : DM) (x : ByteArray) : ByteArray := if M.down then ⟨#[]⟩ else (lkF (findF M.fs x)).1
set_option maxHeartbeats 2000000 in
theorem disk_read (h : DiskC w d b n M) {x : ByteArray} (hx : x.size ≤ maxLen) : Calls Try.prog 16 #[.pointer (some ⟨d, 0, none⟩), .string x] w fun e w' => e = .returned (.tuple #[.string (readV M x), .int .i64 (readE M x)]) ∧ Below w.heap.size w w' := by
  have HD := Aside0.mk (disk_down h)
  have HH := Aside0.mk (disk_has h hx)
  have HL : Aside0 (∀ W, Below w.heap.size w W → W.cell? ⟨d, 1, none⟩ = some (.map (some b)) ∧ (Instr.lookup 61 (.map (some b)) (.string x) false).run Try.prog W = .ok (.agg #[.string (lkF (findF M.fs x)).1, .int .i64 (lkF (findF M.fs x)).2]) W) := ⟨fun W hW => ⟨(h.below hW).c1, look_run (h.below hW) hx⟩⟩
  unfold readV readE
  cases hd : M.down with
  | true =>
    rw [hd] at HD
    clear h hd
    go_enter Try.func16, Try.ntmps16
    go_wp2_with (go_at_call 14; refine HD.out.mono ?_; rintro e w1 ⟨rfl, rfl⟩)
    go_ret2
    exact ⟨rfl, Below.refl _ _⟩
  | false =>
    rw [hd] at HD
    cases hf : findF M.fs x with
    | none =>
      rw [hf] at HH
      clear h hd hf
      go_enter Try.func16, Try.ntmps16
      go_wp2_with (first
        | (go_at_call 14; refine HD.out.mono ?_; rintro e w1 ⟨rfl, rfl⟩)
        | (go_at_call 31; refine HH.out.mono ?_; rintro e w2 ⟨rfl, hb⟩; have HB := Aside0.mk hb; clear hb))
      go_ret2
      exact ⟨rfl, HB.out⟩
    | some f =>
      have hfl := field66
      rw [hf] at HH HL
      clear h hd hf
      go_enter Try.func16, Try.ntmps16
      go_wp2_with (first
        | (go_at_call 14; refine HD.out.mono ?_; rintro e w1 ⟨rfl, rfl⟩)
        | (go_at_call 31; refine HH.out.mono ?_; rintro e w2 ⟨rfl, hb⟩; have HB := Aside0.mk hb; obtain ⟨c1, l1⟩ := HL.out w2 hb; clear hb))
      go_ret2
      exact ⟨rfl, HB.out⟩
end Go.Proofs.Ythcjoiflkhbpfaa.Dk
end
section
set_option linter.unusedVariables false
set_option maxRecDepth 100000
set_option linter.unusedSimpArgs false
namespace Go.Proofs.Ythcjoiflkhbpfaa.Dk
open Go.RowKit Go.Maps Go.WideMaps Go.Proofs.YthcjoiflkhbpfaaW.PrintWords Go.Proofs.YthcjoiflkhbpfaaW.PrintLast Go.Proofs.YthcjoiflkhbpfaaW.PrintMore Go.Proofs.Ythcjoiflkhbpfaa.Mv
variable {w w' : World} {d b n : Nat} {M : DM}
theorem put_facts (h : DiskC w d b n M) (hn : n < maxLen) (f : Fi) (hx : f.f0.size ≤ maxLen) (hok : OkM { M with fs := putF M.fs f }) : ∃ w9, (Instr.mapUpdate 61 (.map (some b)) (.string f.f0) (.agg #[.string f.f1, .int .i64 f.f2])).run Try.prog w = .ok () w9 ∧ DiskC w9 d b (n + 1) { M with fs := putF M.fs f } ∧ Fr (two d b) w w9 := by
  obtain ⟨w9, u1, u2, u3⟩ := h.map.put Try.underlying61 hn (x := f.f0) hx ((f.f1, f.f2) : Fv)
  exact ⟨w9, u1, ⟨(u3.grown.block d h.lt (fun e => h.ne (by injection e))).trans h.head, u2.perm (ent_put h.ok.srt f), hok⟩, Fr.of_turned u3⟩
theorem del_facts (h : DiskC w d b n M) {x : ByteArray} (hx : x.size ≤ maxLen) : ∃ w9, (Builtin.delete_ #[61, 9] 0 #[.map (some b), .string x]).run Try.prog w = .ok (.tuple #[]) w9 ∧ DiskC w9 d b n { M with fs := dropF M.fs x } ∧ Fr (two d b) w w9 := by
  obtain ⟨w9, u1, u2, u3⟩ := h.map.del Try.underlying61 (x := x) hx 0
  exact ⟨w9, u1, ⟨(u3.grown.block d h.lt (fun e => h.ne (by injection e))).trans h.head, u2.perm (ent_del h.ok.srt x), ok_drop h.ok x⟩, Fr.of_turned u3⟩
theorem act_out {G : DM → Int × DM} (h : out M = true) : act G M = (8, gone M) := by unfold act; rw [if_pos h]
theorem act_in {G : DM → Int × DM} (h : ¬ out M = true) : act G M = G (went M) := by unfold act; rw [if_neg h]
theorem lkF_some (f : Fi) : lkF (some f) = (f.f1, f.f2) := rfl
/-- what an act leaves -/
def Post (w : World) (d b n : Nat) (r : Int × DM) (e : Ending) (w' : World) : Prop := e = .returned (.int .i64 r.1) ∧ DiskC w' d b n r.2 ∧ Fr (two d b) w w'
theorem lk_cur (l : List Fi) (x : ByteArray) : lkF (findF l x) = ((curF l x).f1, (curF l x).f2) := by
  unfold lkF curF
  cases findF l x <;> rfl
theorem str_nil (x : ByteArray) (h : bad x = false) : (x.toList == ([] : List UInt8)) = false ∧ ¬ (40 : Int) < (x.size : Int) ∧ x.size ≤ 40 := by
  unfold bad at h
  simp only [Bool.or_eq_false_iff, decide_eq_false_iff_not] at h
  refine ⟨?_, by omega, by omega⟩
  rw [beq_eq_false_iff_ne]
  intro e
  have : x.toList.length = 0 := by rw [e]; rfl
  rw [ByteArray.toList_eq, Array.length_toList] at this
  exact h.1 this
set_option maxHeartbeats 4000000 in
theorem disk_append (h : DiskC w d b n M) (hn : n ≤ 1000000) (x t : ByteArray) (ht : t.size ≤ 140737488351232) : Calls Try.prog 13 #[.pointer (some ⟨d, 0, none⟩), .string x, .string t] w (Post w d b (n + 1) (act (fun M => appendG M x t) M)) := by
  have HT := Aside0.mk (disk_turn h)
  by_cases ho : out M = true
  · rw [act_out ho]
    rw [if_pos ho, if_pos ho] at HT
    clear h ho
    go_enter Try.func13, Try.ntmps13
    go_wp2_with (go_at_call 28; refine HT.out.mono ?_; rintro e w1 ⟨rfl, hd, hf⟩; have HD := Aside0.mk (hd.mono (Nat.le_succ n)); have HF := Aside0.mk hf; clear hd hf)
    go_ret
    exact ⟨rfl, HD.out, HF.out⟩
  · rw [act_in ho]
    rw [if_neg ho, if_neg ho] at HT
    clear h ho
    generalize went M = M1 at *
    unfold appendG
    cases hb : bad x with
    | true =>
      rw [if_pos rfl]
      have hs : (x.toList == ([] : List UInt8)) = true ∨ ((x.toList == ([] : List UInt8)) = false ∧ (40 : Int) < (x.size : Int)) := by
        unfold bad at hb
        simp only [Bool.or_eq_true, decide_eq_true_eq] at hb
        rcases hb with hb | hb
        · refine .inl (beq_iff_eq.2 ?_)
          rw [ByteArray.toList_eq]
          exact List.eq_nil_of_length_eq_zero (by rw [Array.length_toList]; exact hb)
        · refine .inr ⟨beq_eq_false_iff_ne.2 (fun e => ?_), by omega⟩
          have : x.toList.length = 0 := by rw [e]; rfl
          rw [ByteArray.toList_eq, Array.length_toList] at this
          have h3 : x.data.size = x.size := rfl
          omega
      clear hb
      rcases hs with hs | ⟨hs, h40⟩
      all_goals
        go_enter Try.func13, Try.ntmps13
        go_wp2_with (go_at_call 28; refine HT.out.mono ?_; rintro e w1 ⟨rfl, hd, hf⟩; have HD := Aside0.mk (hd.mono (Nat.le_succ n)); have HF := Aside0.mk hf; clear hd hf)
        go_ret
        exact ⟨rfl, HD.out, HF.out⟩
    | false =>
      rw [if_neg (by decide)]
      obtain ⟨hs, h40, hx⟩ := str_nil x hb
      by_cases hr : roomM M1 < t.size
      · rw [if_pos hr]
        have hr' : decide (roomM M1 < (t.size : Int)) = true := decide_eq_true hr
        clear hb
        go_enter Try.func13, Try.ntmps13
        go_wp2_with (first
          | (go_at_call 28; refine HT.out.mono ?_; rintro e w1 ⟨rfl, hd, hf⟩; have HD := Aside0.mk hd; have HF := Aside0.mk hf; clear hd hf)
          | (go_at_call 17; refine (disk_room HD.out hn).mono ?_; rintro e w2 ⟨rfl, hb⟩; have HB := Aside0.mk hb; clear hb))
        go_ret
        exact ⟨rfl, (HD.out.mono (Nat.le_succ n)).below HB.out, HF.out.trans (Fr.below HB.out)⟩
      · rw [if_neg hr]
        have hr' : decide (roomM M1 < (t.size : Int)) = false := decide_eq_false hr
        have HOK : Aside0 (OkM M1 → OkM { M1 with fs := putF M1.fs ⟨x, (curF M1.fs x).f1 ++ t, (curF M1.fs x).f2⟩ }) := ⟨fun hk => by
          have := ok_append hk x t
          unfold appendG at this
          rw [hb, if_neg (by decide), if_neg hr] at this
          exact this⟩
        have HLK := Aside0.mk (lk_cur M1.fs x)
        have HCS : Aside0 (OkM M1 → ((curF M1.fs x).f1.size : Int) ≤ 1048576) := ⟨fun hk => by
          rw [size_cur]
          cases hf : findF M1.fs x with
          | none => simp [sizeO]
          | some f => exact file_le hk (find_mem hf).1⟩
        clear hb
        generalize curF M1.fs x = cf at *
        go_enter Try.func13, Try.ntmps13
        go_wp2_with (first
          | (go_at_call 28; refine HT.out.mono ?_; rintro e w1 ⟨rfl, hd, hf⟩; have HD := Aside0.mk hd; have HF := Aside0.mk hf; clear hd hf)
          | (go_at_call 17; refine (disk_room HD.out hn).mono ?_; rintro e w2 ⟨rfl, hb⟩
             have hd2 := HD.out.below hb
             have HF2 := Aside0.mk (HF.out.trans (Fr.below hb))
             have c1 := hd2.c1
             have l1 := look_run hd2 (x := x) (by unfold maxLen; omega)
             rw [HLK.out] at l1
             obtain ⟨d0, d1⟩ := two_new w2 66 (.string cf.f1) (.int .i64 cf.f2)
             have hcs := HCS.out hd2.ok
             have hcat : ¬ 9223372036854775807 < cf.f1.size + t.size := by omega
             obtain ⟨e0, e1⟩ := two_new w2 66 (.string (cf.f1 ++ t)) (.int .i64 cf.f2)
             have c1' := up (below_alloc (Below.refl _ _) (.cells #[.string (cf.f1 ++ t), .int .i64 cf.f2] 66)) c1
             have hbW : Below w2.heap.size w2 (w2.alloc (.cells #[.string (cf.f1 ++ t), .int .i64 cf.f2] 66)).drew := (below_alloc (Below.refl _ _) _).drew
             obtain ⟨w9, u1, u2, u3⟩ := put_facts (hd2.below hbW) (by unfold maxLen; omega) ⟨x, cf.f1 ++ t, cf.f2⟩ (by unfold maxLen; show x.size ≤ _; omega) (HOK.out hd2.ok)
             have U2 := Aside0.mk u2
             have U3 := Aside0.mk (HF2.out.trans ((Fr.below hbW).trans u3))
             clear hb hd2 hcs hbW u2 u3))
        go_region
        all_goals
          go_wp2
          go_ret
          exact ⟨rfl, U2.out, U3.out⟩
set_option maxHeartbeats 4000000 in
theorem disk_sync (h : DiskC w d b n M) (hn : n ≤ 1000000) (x : ByteArray) (hx : x.size ≤ maxLen) : Calls Try.prog 19 #[.pointer (some ⟨d, 0, none⟩), .string x] w (Post w d b (n + 1) (act (fun M => syncG M x) M)) := by
  have HT := Aside0.mk (disk_turn h)
  by_cases ho : out M = true
  · rw [act_out ho]
    rw [if_pos ho, if_pos ho] at HT
    clear h ho
    go_enter Try.func19, Try.ntmps19
    go_wp2_with (go_at_call 28; refine HT.out.mono ?_; rintro e w1 ⟨rfl, hd, hf⟩; have HD := Aside0.mk (hd.mono (Nat.le_succ n)); have HF := Aside0.mk hf; clear hd hf)
    go_ret
    exact ⟨rfl, HD.out, HF.out⟩
  · rw [act_in ho]
    rw [if_neg ho, if_neg ho] at HT
    clear h ho
    generalize went M = M1 at *
    unfold syncG
    have HOK : Aside0 (OkM M1 → OkM (syncG M1 x).2) := ⟨fun hk => ok_sync hk x⟩
    unfold syncG at HOK
    cases hf : findF M1.fs x with
    | none =>
      have HFN := Aside0.mk hf
      clear hf HOK
      go_enter Try.func19, Try.ntmps19
      go_wp2_with (go_at_call 28; refine HT.out.mono ?_; rintro e w1 ⟨rfl, hd, hf⟩
                   have HD := Aside0.mk (hd.mono (Nat.le_succ n))
                   have HF := Aside0.mk hf
                   have c1 := hd.c1
                   have l1 := look2_run hd hx
                   rw [HFN.out] at l1
                   have HB : Aside0 (∀ o : Obj, Below w1.heap.size w1 (w1.alloc o)) := ⟨fun o => below_alloc (Below.refl _ _) o⟩
                   clear hd hf)
      go_ret
      exact ⟨rfl, HD.out.below (HB.out _), HF.out.trans (Fr.below (HB.out _))⟩
    | some f =>
      rw [hf] at HOK
      obtain ⟨hfm, hfx⟩ := find_mem hf
      have HFX := Aside0.mk hfx
      have HFS := Aside0.mk hf
      clear hf hfm hfx
      go_enter Try.func19, Try.ntmps19
      go_wp2_with (go_at_call 28; refine HT.out.mono ?_; rintro e w1 ⟨rfl, hd, hf⟩
                   have HF := Aside0.mk hf
                   have c1 := hd.c1
                   have l1 := look2_run hd hx
                   rw [HFS.out, lkF_some] at l1
                   obtain ⟨d0, d1⟩ := two_new w1 66 (.string f.f1) (.int .i64 f.f2)
                   obtain ⟨e0, e1⟩ := two_new w1 66 (.string f.f1) (.int .i64 (f.f1.size : Int))
                   have c1' := up (below_alloc (Below.refl _ _) (.cells #[.string f.f1, .int .i64 (f.f1.size : Int)] 66)) c1
                   have hbW : Below w1.heap.size w1 (w1.alloc (.cells #[.string f.f1, .int .i64 (f.f1.size : Int)] 66)).drew := (below_alloc (Below.refl _ _) _).drew
                   obtain ⟨w9, u1, u2, u3⟩ := put_facts (hd.below hbW) (by unfold maxLen; omega) ⟨f.f0, f.f1, (f.f1.size : Int)⟩ (by show f.f0.size ≤ _; rw [HFX.out]; exact hx) (HOK.out hd.ok)
                   rw [show (Value.string (⟨f.f0, f.f1, (f.f1.size : Int)⟩ : Fi).f0) = .string x by rw [← HFX.out]] at u1
                   have U2 := Aside0.mk u2
                   have U3 := Aside0.mk (HF.out.trans ((Fr.below hbW).trans u3))
                   clear hd hf hbW u2 u3)
      go_region
      all_goals
        go_wp2
        go_ret
        exact ⟨rfl, U2.out, U3.out⟩
end Go.Proofs.Ythcjoiflkhbpfaa.Dk
end
section
set_option linter.unusedVariables false
set_option maxRecDepth 100000
set_option linter.unusedSimpArgs false
namespace Go.Proofs.Ythcjoiflkhbpfaa.Dk
open Go.RowKit Go.Maps Go.WideMaps Go.Proofs.YthcjoiflkhbpfaaW.PrintWords Go.Proofs.YthcjoiflkhbpfaaW.PrintLast Go.Proofs.YthcjoiflkhbpfaaW.PrintMore Go.Proofs.Ythcjoiflkhbpfaa.Mv
variable {w w' : World} {d b n : Nat} {M : DM}
theorem bad_cases {x : ByteArray} (hb : bad x = true) : (x.toList == ([] : List UInt8)) = true ∨ ((x.toList == ([] : List UInt8)) = false ∧ (40 : Int) < (x.size : Int)) := by
  unfold bad at hb
  simp only [Bool.or_eq_true, decide_eq_true_eq] at hb
  rcases hb with hb | hb
  · refine .inl (beq_iff_eq.2 ?_)
    rw [ByteArray.toList_eq]
    exact List.eq_nil_of_length_eq_zero (by rw [Array.length_toList]; exact hb)
  · refine .inr ⟨beq_eq_false_iff_ne.2 (fun e => ?_), by omega⟩
    have : x.toList.length = 0 := by rw [e]; rfl
    rw [ByteArray.toList_eq, Array.length_toList] at this
    have h3 : x.data.size = x.size := rfl
    omega
set_option maxHeartbeats 4000000 in
theorem disk_rename (h : DiskC w d b n M) (hn : n ≤ 1000000) (x y : ByteArray) (hx : x.size ≤ maxLen) : Calls Try.prog 21 #[.pointer (some ⟨d, 0, none⟩), .string x, .string y] w (Post w d b (n + 1) (act (fun M => renameG M x y) M)) := by
  have HT := Aside0.mk (disk_turn h)
  by_cases ho : out M = true
  · rw [act_out ho]
    rw [if_pos ho, if_pos ho] at HT
    clear h ho
    go_enter Try.func21, Try.ntmps21
    go_wp2_with (go_at_call 28; refine HT.out.mono ?_; rintro e w1 ⟨rfl, hd, hf⟩; have HD := Aside0.mk (hd.mono (Nat.le_succ n)); have HF := Aside0.mk hf; clear hd hf)
    go_ret
    exact ⟨rfl, HD.out, HF.out⟩
  · rw [act_in ho]
    rw [if_neg ho, if_neg ho] at HT
    clear h ho
    generalize went M = M1 at *
    have HOK : Aside0 (OkM M1 → OkM (renameG M1 x y).2) := ⟨fun hk => ok_rename hk x y⟩
    unfold renameG at *
    cases hb : bad y with
    | true =>
      rw [if_pos rfl]
      have hs := bad_cases hb
      have HLK : Aside0 (∀ W, DiskC W d b n M1 → ∃ (a : ByteArray) (c : Int) (s : Bool), (Instr.lookup 61 (.map (some b)) (.string x) true).run Try.prog W = .ok (.tuple #[.agg #[.string a, .int .i64 c], .bool s]) W) := ⟨fun W hW => ⟨_, _, _, look2_run hW hx⟩⟩
      clear hb HOK
      rcases hs with hs | ⟨hs, h40⟩
      all_goals
        go_enter Try.func21, Try.ntmps21
        go_wp2_with (go_at_call 28; refine HT.out.mono ?_; rintro e w1 ⟨rfl, hd, hf⟩
                     have HD := Aside0.mk (hd.mono (Nat.le_succ n))
                     have HF := Aside0.mk hf
                     have c1 := hd.c1
                     obtain ⟨ka, kc, ks, l1⟩ := HLK.out w1 hd
                     have HB : Aside0 (∀ o : Obj, Below w1.heap.size w1 (w1.alloc o)) := ⟨fun o => below_alloc (Below.refl _ _) o⟩
                     clear hd hf)
        go_ret
        exact ⟨rfl, HD.out.below (HB.out _), HF.out.trans (Fr.below (HB.out _))⟩
    | false =>
      rw [hb, if_neg (by decide)] at HOK
      rw [if_neg (by decide)]
      obtain ⟨hs, h40, hy⟩ := str_nil y hb
      cases hf : findF M1.fs x with
      | none =>
        have HFN := Aside0.mk hf
        clear hf HOK hb
        go_enter Try.func21, Try.ntmps21
        go_wp2_with (go_at_call 28; refine HT.out.mono ?_; rintro e w1 ⟨rfl, hd, hf⟩
                     have HD := Aside0.mk (hd.mono (Nat.le_succ n))
                     have HF := Aside0.mk hf
                     have c1 := hd.c1
                     have l1 := look2_run hd hx
                     rw [HFN.out] at l1
                     have HB : Aside0 (∀ o : Obj, Below w1.heap.size w1 (w1.alloc o)) := ⟨fun o => below_alloc (Below.refl _ _) o⟩
                     clear hd hf)
        go_ret
        exact ⟨rfl, HD.out.below (HB.out _), HF.out.trans (Fr.below (HB.out _))⟩
      | some f =>
        rw [hf] at HOK
        have HFS := Aside0.mk hf
        clear hf hb
        go_enter Try.func21, Try.ntmps21
        go_wp2_with (go_at_call 28; refine HT.out.mono ?_; rintro e w1 ⟨rfl, hd, hf⟩
                     have HF := Aside0.mk hf
                     have c1 := hd.c1
                     have l1 := look2_run hd hx
                     rw [HFS.out, lkF_some] at l1
                     obtain ⟨d0, d1⟩ := two_new w1 66 (.string f.f1) (.int .i64 f.f2)
                     have hbW : Below w1.heap.size w1 (w1.alloc (.cells #[.string f.f1, .int .i64 f.f2] 66)) := below_alloc (Below.refl _ _) _
                     have c1' := up hbW c1
                     have hnF : ¬ two d b w1.heap.size := fun e => e.elim (fun e => by have := hd.lt; omega) (fun e => by have := hd.mlt; omega)
                     obtain ⟨w5, u1, u2, u3⟩ := del_facts (hd.below hbW) hx
                     have c5 := u2.c1
                     have d05 := u3.cellOf d0 hnF
                     have d15 := u3.cellOf d1 hnF
                     have hok5 := HOK.out hd.ok
                     obtain ⟨w9, v1, v2, v3⟩ := put_facts (u2.below (Below.refl w5.heap.size w5).drew) (by unfold maxLen; omega) ⟨y, f.f1, f.f2⟩ (by show y.size ≤ _; unfold maxLen; omega) hok5
                     have U2 := Aside0.mk v2
                     have U3 := Aside0.mk (HF.out.trans ((Fr.below hbW).trans (u3.trans ((Fr.drew w5).trans v3))))
                     clear hd hf hbW u2 u3 v2 v3 hok5 hnF)
        go_region
        all_goals
          go_wp2
          go_ret
          exact ⟨rfl, U2.out, U3.out⟩
end Go.Proofs.Ythcjoiflkhbpfaa.Dk
end
