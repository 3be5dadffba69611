/- Lemmas that the proof needs, part 5. -/
import Derived.Test.YthcjoiflkhbpfaaWWords
import Derived.Test.YthcjoiflkhbpfaaKm1
import Derived.Test.YthcjoiflkhbpfaaKm2
import Derived.Test.YthcjoiflkhbpfaaKm3
import Derived.Test.YthcjoiflkhbpfaaKm4
section
set_option linter.unusedVariables false
set_option maxRecDepth 100000
set_option linter.unusedSimpArgs false
namespace Go.Proofs.Ythcjoiflkhbpfaa.Dk
open Go.RowKit Go.Maps Go.WideMaps Go.Sort Go.Shelf Go.Proofs.YthcjoiflkhbpfaaW.PrintWords Go.Proofs.YthcjoiflkhbpfaaW.PrintLast Go.Proofs.YthcjoiflkhbpfaaW.PrintMore Go.Proofs.Ythcjoiflkhbpfaa.Mv
variable {w w' : World} {d b n : Nat} {M : DM}
def namesM (M : DM) : List ByteArray := M.fs.map (·.f0)
theorem names_perm {D : DV} {l : List Fi} (hs : Srt l) (hown : w.ownsMap Try.prog 9 rv b n D) (h : Says KS eF D (ent l)) : (l.map fun f => f.f0.data.toList).Perm (strKeys D) := by
  obtain ⟨es, hD, hpw, _⟩ := hown.entries KS.keyed
  obtain ⟨es', hD', hko⟩ := hown.keysOf
  obtain rfl : es = es' := by rw [hD] at hD'; simpa using hD'
  subst hD
  refine perm_strKeys hpw (fun p hp => by obtain ⟨v, hv⟩ := hko p hp; obtain ⟨x, _, hx, _⟩ := Maps.keyOf_str Try.underlying9 hv; exact ⟨x, hx⟩) ?_ (fun x => ?_)
  · unfold List.Nodup
    rw [List.pairwise_map]
    exact List.Pairwise.imp (fun {a b} hab e => nl_ne hab (bytes_ext e)) hs
  · have h1 := h.hs (⟨x.toArray⟩ : ByteArray)
    have e1 : KS.lk (⟨x.toArray⟩ : ByteArray) = .string x := by
      show Lit.string (⟨x.toArray⟩ : ByteArray).data.toList = _
      simp
    rw [e1, ent_find, Option.isSome_map] at h1
    rw [h1, List.mem_map]
    constructor
    · rintro ⟨f, hf, rfl⟩
      have := find_of hs hf
      have e2 : f.f0 = (⟨f.f0.data.toList.toArray⟩ : ByteArray) := bytes_ext (by simp)
      rw [← e2, this]
      rfl
    · intro hx
      obtain ⟨f, hf⟩ := Option.isSome_iff_exists.1 hx
      obtain ⟨g1, g2⟩ := find_mem hf
      exact ⟨f, g1, by rw [g2]⟩
theorem sort_names {l : List Fi} (hs : Srt l) {ss : List (List UInt8)} (hp : ss.Perm (l.map fun f => f.f0.data.toList)) : ss.mergeSort leB = l.map fun f => f.f0.data.toList := by
  rw [mergeSort_of_perm hp]
  refine List.mergeSort_of_pairwise ?_
  rw [List.pairwise_map]
  exact List.Pairwise.imp (fun {a b} hab => by
    show decide (a.f0.data.toList ≤ b.f0.data.toList) = true
    exact decide_eq_true (List.le_of_lt hab)) hs
theorem sortsL (m : Nat) : AnyZ.SortsIn Try.prog lSorted_ren Fence.wide m :=
  ⟨fun blk off cap ss W hH hblk hsz => callsIn_wide.2 (AnyM.slices_Sort_string lSort blk off cap ss W hH hblk hsz),
   fun p cap W => callsIn_wide.2 (AnyM.slices_Sort_string_none lSort p cap W)⟩
theorem keys_call (mb : Option Nat) (w : World) : Calls Try.prog 30 #[.map mb] w fun e w' => e = .returned (.func (.func 39) #[] #[.pointer (some ⟨w.heap.size, 0, none⟩)]) ∧ w' = w.alloc (.cells #[.map mb] 61) :=
  (callsIn_wide (n := 5)).1 (AnyZ.keys_in lKeys Fence.wide 5 trivial rfl mb w)
/-- slices.Sorted(maps.Keys(d.files)): the names in order, a new row. -/
theorem sorted_call (h : DiskC w d b n M) (hn : n ≤ 1000000) : Calls Try.prog 29 #[.func (.func 39) #[] #[.pointer (some ⟨w.heap.size, 0, none⟩)]] (w.alloc (.cells #[.map (some b)] 61)) fun e w' => ∃ v, e = .returned v ∧ Kd.R Kd.string 9 w' (w.heap.size + 1) (fun _ => True) v (namesM M) ∧ Below w.heap.size w w' := by
  have hsrt := h.ok.srt
  obtain ⟨D, hown, hsays⟩ := h.map
  have hbl := hown.lt
  have hsz : Maps.size D ≤ 1000000 := by
    have h1 := hsays.sz
    have h2 := h.map.le
    omega
  have hb : Below w.heap.size w (w.alloc (.cells #[.map (some b)] 61)) := below_alloc (Below.refl _ _) _
  have hown' : (w.alloc (.cells #[.map (some b)] 61)).ownsMap Try.prog 9 rv b n D := by
    obtain ⟨es, clock, q1, q2⟩ := hown
    exact ⟨es, clock, (hb.block b hbl).trans q1, q2⟩
  have hseq : SeqGives Fence.wide 2 Try.prog 39 #[.pointer (some ⟨w.heap.size, 0, none⟩)] encStr (fun ss => ss.Perm (strKeys D)) (Maps.size D) (w.alloc (.cells #[.map (some b)] 61)) :=
    AnyZ.keys_gives (ρ := lKeys_ren) { lKeys with } Fence.wide _ trivial rfl (by omega) w.heap.size b n D _ (by simp) (by simp) hown'
  have cS := AnyZ.sorted_in lSorted Fence.wide 5 trivial trivial trivial trivial rfl (by omega) (sortsL _) (enters_of Try.func38 (by kernel_rfl) rfl) 39 #[.pointer (some ⟨w.heap.size, 0, none⟩)] trivial (enters_of Try.func39 (by kernel_rfl) rfl) _ _ (by unfold maxLen; omega) (by omega) _ hseq
  refine ((callsIn_wide (n := 5)).1 cS).mono ?_
  rintro e w' ⟨v, ss, rfl, hS, hrow, _, hbw⟩
  have hp := names_perm hsrt hown hsays
  have hl : ss.length = (namesM M).length := by
    have := (hS.trans hp.symm).length_eq
    unfold namesM
    rw [this, List.length_map, List.length_map]
  refine ⟨v, rfl, ?_, below_step hb hbw⟩
  have e1 : (ss.mergeSort fun x y => decide (x ≤ y)).map encStr = encs Value.string (namesM M) := by
    have := sort_names hsrt (hS.trans hp.symm)
    have e2 : (ss.mergeSort fun x y => decide (x ≤ y)) = ss.mergeSort leB := rfl
    rw [e2, this]
    unfold encs namesM
    rw [List.map_map, List.map_map]
    refine List.map_congr_left (fun f _ => ?_)
    show encStr f.f0.data.toList = Value.string f.f0
    unfold encStr
    congr 1
  rw [e1, hl, World.size_alloc] at hrow
  exact Kd.R_of_own hrow (fun _ _ => trivial)
end Go.Proofs.Ythcjoiflkhbpfaa.Dk
end
section
set_option linter.unusedVariables false
set_option maxRecDepth 100000
set_option linter.unusedSimpArgs false
namespace Go.Proofs.Ythcjoiflkhbpfaa.Dk
open Go.RowKit Go.Maps Go.WideMaps Go.Sort Go.Shelf Go.Proofs.YthcjoiflkhbpfaaW.PrintWords Go.Proofs.YthcjoiflkhbpfaaW.PrintLast Go.Proofs.YthcjoiflkhbpfaaW.PrintMore Go.Proofs.Ythcjoiflkhbpfaa.Mv
variable {w w' : World} {d b n : Nat} {M : DM}
theorem name_at (M : DM) {i : Nat} (hi : i < M.fs.length) : rdOf (⟨#[]⟩ : ByteArray) (namesM M) (i : Int) = M.fs[i].f0 := by
  unfold rdOf namesM
  simp [List.getD, List.getElem?_eq_getElem hi]
set_option maxHeartbeats 8000000 in
theorem disk_crash (h : DiskC w d b n M) (hn : n ≤ 1000000) (l : List Int) (A : Option Addr) (c : Nat) (hC : (Kd.int .i64).C w A l.length l) : Calls Try.prog 15 #[.pointer (some ⟨d, 0, none⟩), .slice A l.length c] w fun e w' => ∃ d' b', e = .returned (.pointer (some ⟨d', 0, none⟩)) ∧ DiskC w' d' b' n (crashM M l) ∧ w.heap.size ≤ d' ∧ w.heap.size ≤ b' ∧ Below w.heap.size w w' := by
  have HH := Aside0.mk h
  have HC := Aside0.mk hC
  have hlen : (namesM M).length = M.fs.length := List.length_map _
  have HLE := Aside0.mk h.le
  have hmn : ∀ ats ty x y W, (Builtin.min_ ats ty #[.int .i64 x, .int .i64 y]).run Try.prog W = .ok (.int .i64 (mnI x y)) W := fun ats ty x y W => run_min ats ty x y W
  have hmx : ∀ ats ty x y W, (Builtin.max_ ats ty #[.int .i64 x, .int .i64 y]).run Try.prog W = .ok (.int .i64 (mxI x y)) W := fun ats ty x y W => run_max ats ty x y W
  have HLN := Aside0.mk hlen
  clear h hC hlen
  go_enter Try.func15, Try.ntmps15
  go_wp2_with (first
    | (go_at_call 11; refine (disk_new _ _).mono ?_; rintro e w1 ⟨rfl, hd, hb⟩
       have hd1 := HH.out.below hb
       have q0 := hd1.c0
       have q1 := hd1.c1
       have p0 := hd.c0
       have pz := hd.fz 0
       have hset := heap_setCell_at w1 (w.heap.size + 1) 0 _ _ _ (.int .i64 M.size) hd.head
       have hds : d ≠ w.heap.size + 1 := by have := HH.out.lt; omega
       have hbs : b ≠ w.heap.size + 1 := by have := HH.out.mlt; omega
       have hd2 : DiskC (w1.setCell ⟨w.heap.size + 1, 0, none⟩ (.int .i64 M.size)) d b n M := hd1.same (Below.heap_setCell w1 _ _ d hds) (Below.heap_setCell w1 _ _ b hbs)
       have q1 := hd2.c1
       have HD2 := Aside0.mk hd2
       have hsc := sorted_call hd2 hn
       rw [size_setCell] at hsc
       have HSC := Aside0.mk hsc
       have HS1 : Aside0 (w.heap.size + 1 < w1.heap.size) := ⟨hd.lt⟩
       have HO2 : Aside0 (DiskC (w1.setCell ⟨w.heap.size + 1, 0, none⟩ (.int .i64 M.size)) (w.heap.size + 1) w.heap.size 0 (crashTo M l 0)) := ⟨⟨by rw [hset]; rfl, hd.map.same (Below.heap_setCell w1 _ _ w.heap.size (by show w.heap.size ≠ w.heap.size + 1; omega)), ok_crashTo HH.out.ok l 0⟩⟩
       have HB2 : Aside0 (Below w.heap.size w (w1.setCell ⟨w.heap.size + 1, 0, none⟩ (.int .i64 M.size))) := ⟨hb.setCell (p := ⟨w.heap.size + 1, 0, none⟩) (Nat.le_succ _) _⟩
       clear hd hb hd1 hset hds hbs hd2 hsc)
    | (go_at_call 30; refine (keys_call _ _).mono ?_; rintro e w2 ⟨rfl, e2⟩; subst e2)
    | (go_at_call 29; refine HSC.out.mono ?_; rintro e w3 ⟨v, rfl, hr, hb⟩
       obtain ⟨A3, c3, e3⟩ := Kd.R_slice hr
       rw [HLN.out] at e3
       subst e3
       have hr3 : Kd.R Kd.string 9 w3 0 (fun k => w.heap.size + 1 < k) (.slice A3 M.fs.length c3) (namesM M) := Kd.R_lower (Kd.R_mono (Kd.R_bound hr) (fun k hk => by have := hk.2.1; have := HS1.out; omega)) (Nat.zero_le _)
       rw [← size_setCell w1 ⟨w.heap.size + 1, 0, none⟩ (.int .i64 M.size)] at hb
       have HR3 := Aside0.mk hr3
       have HO3 := Aside0.mk (HO2.out.below hb)
       have HB3 := Aside0.mk (below_step HB2.out hb)
       clear hr hb hr3))
  have HDN : Aside0 (DiskC w d b n M ∧ Below w.heap.size w w3) := ⟨⟨HH.out, HB3.out⟩⟩
  have HSS : Aside0 (w.heap.size + 1 < w3.heap.size) := ⟨HO3.out.lt⟩
  clear q0 q1 p0 pz HD2 HSC HO2 HB2
  generalize hDD : w.heap.size + 1 = dd at *
  generalize hBB : w.heap.size = bb at *
  have HDD : Aside0 (bb ≤ dd ∧ w.heap.size = bb) := ⟨by omega, hBB⟩
  clear hDD hBB
  go_loopg [28] (M.fs.length + 1) (fun kq v28 wq => ∃ i : Nat, v28 = .int .i64 (i : Int) ∧ i ≤ M.fs.length ∧ M.fs.length - i < kq ∧ Aside0 (DiskC wq dd bb i (crashTo M l i)) ∧ Aside0 (Below bb w wq) ∧ Aside0 (Kd.R Kd.string 9 wq 0 (fun k => dd < k) (.slice A3 M.fs.length c3) (namesM M)))
  case atStart => exact ⟨0, rfl, Nat.zero_le _, by omega, HO3, HB3, HR3⟩
  case round =>
    clear HO3 HB3 HR3
    obtain ⟨i, rfl, hi, hk, HO, HB, HR⟩ := hrel
    have z0 : (0 : Int) ≤ (i : Int) := by omega
    have hle := HLE.out
    by_cases hlt : i < M.fs.length
    · have z1 : (i : Int) < (M.fs.length : Int) := by omega
      have hdn : DiskC wr d b n M := HDN.out.1.below (by have := HB.out; rw [← HDD.out.2] at this; exact this)
      obtain ⟨A9, c9, e9, hc9, hC9⟩ := Kd.R_reads HR.out
      injection e9 with e9 e9b e9c
      clear e9b
      subst e9 e9c
      obtain ⟨ad, eA, f0⟩ := Kd.at_string hC9 (i : Int) z0 (by rw [HLN.out]; exact z1)
      clear hC9 hc9
      rw [show rdOf ByteArray.empty (namesM M) (i : Int) = M.fs[i].f0 from name_at M hlt] at f0
      rw [Int.toNat_natCast] at f0
      subst eA
      have hmem : M.fs[i] ∈ M.fs := List.getElem_mem hlt
      have hsf := hdn.ok.safe _ hmem
      have HSF := Aside0.mk hsf
      have hfl := file_le hdn.ok hmem
      have hnm := hdn.ok.name _ hmem
      have l1 := look_run hdn (x := M.fs[i].f0) (by unfold maxLen; omega)
      rw [find_of hdn.ok.srt hmem, lkF_some] at l1
      have c1 := hdn.c1
      have c1o := HO.out.c1
      have HST : Aside0 ({ crashTo M l i with fs := putF (crashTo M l i).fs ⟨M.fs[i].f0, M.fs[i].f1.extract 0 (keepF l i M.fs[i]).toNat, keepF l i M.fs[i]⟩ } = crashTo M l (i + 1)) := ⟨crash_step hdn.ok l hlt⟩
      have hkl := keep_le l i hsf
      have hke : keepF l i M.fs[i] = if i < l.length then M.fs[i].f2 + mnI (mxI (l.getD i 0) 0) ((M.fs[i].f1.size : Int) - M.fs[i].f2) else M.fs[i].f2 := by
        unfold keepF
        rw [mnI_eq, mxI_eq]
      have HOK : Aside0 (OkM (crashTo M l (i + 1))) := ⟨ok_crashTo hdn.ok l (i + 1)⟩
      generalize keepF l i M.fs[i] = kk at *
      generalize M.fs[i] = f at *
      obtain ⟨d0, d1⟩ := two_new wr 66 (.string f.f1) (.int .i64 f.f2)
      have hbW : Below wr.heap.size wr (wr.alloc (.cells #[.string f.f1, .int .i64 f.f2] 66)) := below_alloc (Below.refl _ _) _
      have f0' := up hbW f0
      have c1' := up hbW c1
      have c1o' := up hbW c1o
      have HBW := Aside0.mk hbW
      have k0 : 0 ≤ kk := hkl.1
      have k1 : kk ≤ (f.f1.size : Int) := hkl.2
      have hsf0 := hsf.1
      have hsf1 := hsf.2
      clear hdn hmem hsf hkl HSF
      by_cases hkc : i < l.length
      · rw [if_pos hkc] at hke
        have y1 : (i : Int) < (l.length : Int) := by omega
        obtain ⟨adK, eK, g0⟩ := Kd.at_int (Kd.C_below HC.out (by have := HB.out; rw [← HDD.out.2] at this; exact this)) (i : Int) z0 y1
        subst eK
        have g0' := up hbW g0
        rw [Int.toNat_natCast] at g0'
        rw [show YthcjoiflkhbpfaaW.PrintWords.rd l (i : Int) = l.getD i 0 from rfl] at g0'
        generalize l.getD i 0 = a at *
        have e0 : IntKind.i64.wrap ((f.f1.size : Int) - f.f2) = (f.f1.size : Int) - f.f2 := by rw [IntKind.wrap_i64]; omega
        have e1 : IntKind.i64.wrap (f.f2 + mnI (mxI a 0) ((f.f1.size : Int) - f.f2)) = kk := by rw [← hke, IntKind.wrap_i64]; omega
        have e2 : wrap64 (f.f2 + mnI (mxI a 0) ((f.f1.size : Int) - f.f2)) = kk := by rw [← hke]; exact w64 (by omega) (by omega)
        clear hke g0
        go_wp2
        go_quiet (fail)
        have hbq : Below wr.heap.size wr ((wr.alloc (.cells #[.string f.f1, .int .i64 f.f2] 66)).drewN (nq + 1)) := pw_below_drewN HBW.out (nq + 1)
        have hoo := HO.out.below hbq
        obtain ⟨w9, u1, u2, u3⟩ := put_facts hoo (by unfold maxLen; omega) ⟨f.f0, f.f1.extract 0 kk.toNat, kk⟩ (by show f.f0.size ≤ _; unfold maxLen; omega) (by rw [HST.out]; exact HOK.out)
        rw [HST.out] at u2
        have HO9 := Aside0.mk u2
        have HB9 : Aside0 (Below bb w w9) := ⟨(HB.out.trans (hbq.mono (by have := HB.out.size; rw [HDD.out.2] at this; exact this))).trans (u3.isBelow (fun k hk e => e.elim (fun e => by have := HDD.out; omega) (fun e => by omega)) (by have := HB.out.size; have h2 := hbq.size; rw [HDD.out.2] at this; omega))⟩
        have HR9 : Aside0 (Kd.R Kd.string 9 w9 0 (fun k => dd < k) (.slice (some ad) M.fs.length c3) (namesM M)) := ⟨Kd.R_step (Kd.R_below HR.out hbq) (fun k hk hl => u3.block k hl (fun e => e.elim (fun e => by omega) (fun e => by have := HDD.out; omega)))⟩
        clear hbq hoo u2 u3
        go_wp2
        go_region
        all_goals
          go_wp2
          go_roundg (gk - 1)
          case measure => omega
          case rel => exact ⟨i + 1, by go_num, by omega, by omega, HO9, HB9, HR9⟩
      · rw [if_neg hkc] at hke
        have y1 : ¬ (i : Int) < (l.length : Int) := by omega
        subst hke
        have hbq : Below wr.heap.size wr ((wr.alloc (.cells #[.string f.f1, .int .i64 f.f2] 66)).drew) := HBW.out.drew
        have hoo := HO.out.below hbq
        obtain ⟨w9, u1, u2, u3⟩ := put_facts hoo (by unfold maxLen; omega) ⟨f.f0, f.f1.extract 0 f.f2.toNat, f.f2⟩ (by show f.f0.size ≤ _; unfold maxLen; omega) (by rw [HST.out]; exact HOK.out)
        rw [HST.out] at u2
        have HO9 := Aside0.mk u2
        have HB9 : Aside0 (Below bb w w9) := ⟨(HB.out.trans (hbq.mono (by have := HB.out.size; rw [HDD.out.2] at this; exact this))).trans (u3.isBelow (fun k hk e => e.elim (fun e => by have := HDD.out; omega) (fun e => by omega)) (by have := HB.out.size; have h2 := hbq.size; rw [HDD.out.2] at this; omega))⟩
        have HR9 : Aside0 (Kd.R Kd.string 9 w9 0 (fun k => dd < k) (.slice (some ad) M.fs.length c3) (namesM M)) := ⟨Kd.R_step (Kd.R_below HR.out hbq) (fun k hk hl => u3.block k hl (fun e => e.elim (fun e => by omega) (fun e => by have := HDD.out; omega)))⟩
        clear hbq hoo u2 u3
        go_wp2
        go_region
        all_goals
          go_wp2
          go_roundg (gk - 1)
          case measure => omega
          case rel => exact ⟨i + 1, by go_num, by omega, by omega, HO9, HB9, HR9⟩
    · have hiz : i = M.fs.length := by omega
      subst hiz
      rw [crash_all] at HO
      clear hlt
      go_wp2
      go_ret
      exact ⟨dd, bb, rfl, HO.out.mono hle, by have := HDD.out; omega, by have := HDD.out; omega, by have := HB.out; rw [← HDD.out.2] at this; exact this⟩
end Go.Proofs.Ythcjoiflkhbpfaa.Dk
end
section
set_option linter.unusedVariables false
set_option maxRecDepth 100000
set_option linter.unusedSimpArgs false
namespace Go.Proofs.Ythcjoiflkhbpfaa.Dk
open Go.RowKit Go.Maps Go.WideMaps Go.Sort Go.Shelf Go.Proofs.YthcjoiflkhbpfaaW.PrintWords Go.Proofs.YthcjoiflkhbpfaaW.PrintLast Go.Proofs.YthcjoiflkhbpfaaW.PrintMore Go.Proofs.Ythcjoiflkhbpfaa.Mv
variable {w w' : World} {d b n : Nat} {M : DM}
theorem one_i (w : World) (x : Int) : (Kd.int .i64).C (w.alloc (.cells #[.int .i64 x] 3)) (some ⟨w.heap.size, 0, none⟩) 1 [x] := by
  refine ⟨rfl, by decide, fun _ => ⟨_, rfl, fun j p hj => ?_⟩⟩
  have hh := heap_alloc_new w (.cells #[.int .i64 x] 3)
  have hj0 : j = 0 := by
    have := (List.getElem?_eq_some_iff.1 hj).1
    simp at this
    exact this
  subst hj0
  cases hj
  refine ⟨[.int .i64 x], rfl, rfl, fun i u hu => ?_⟩
  have hi0 : i = 0 := by
    have := (List.getElem?_eq_some_iff.1 hu).1
    simp at this
    exact this
  subst hi0
  cases hu
  exact (cell_of_row _ _ _ _ _ _ hh).trans rfl
theorem two_fresh {w : World} {d b k : Nat} (h1 : w.heap.size ≤ d) (h2 : w.heap.size ≤ b) : ∀ k, k < w.heap.size → ¬ two d b k := fun k hk e => e.elim (fun e => by omega) (fun e => by omega)
/-- a world in which nothing has changed since w but the disk's blocks, that are new -/
theorem fr_below {w W W' : World} {d b : Nat} (hB : Below w.heap.size w W) (h1 : w.heap.size ≤ d) (h2 : w.heap.size ≤ b) (h : Fr (two d b) W W') : Below w.heap.size w W' :=
  hB.trans (h.isBelow (two_fresh (k := 0) h1 h2) hB.size)
def hD0 : DM := newM 100
def hD1 : DM := ⟨[⟨⟨#[102]⟩, ⟨#[97, 98]⟩, 0⟩], 100, false, -1⟩
def hD2 : DM := ⟨[⟨⟨#[102]⟩, ⟨#[97, 98]⟩, 2⟩], 100, false, -1⟩
def hD3 : DM := ⟨[⟨⟨#[102]⟩, ⟨#[97, 98, 99, 100]⟩, 2⟩], 100, false, -1⟩
theorem hd1 : act (fun M => appendG M ⟨#[102]⟩ ⟨#[97, 98]⟩) hD0 = (0, hD1) := by kernel_rfl
theorem hd2 : act (fun M => syncG M ⟨#[102]⟩) hD1 = (0, hD2) := by kernel_rfl
theorem hd3 : act (fun M => appendG M ⟨#[102]⟩ ⟨#[99, 100]⟩) hD2 = (0, hD3) := by kernel_rfl
theorem hd4 : readV (crashM hD3 [1]) ⟨#[102]⟩ = ⟨#[97, 98, 99]⟩ ∧ readE (crashM hD3 [1]) ⟨#[102]⟩ = 0 := ⟨by kernel_rfl, by kernel_rfl⟩
set_option maxHeartbeats 4000000 in
theorem head_any (w : World) : Calls Try.prog 10 #[] w fun e w' => e = .returned (.bool true) ∧ Below w.heap.size w w' := by
  go_enter Try.func10, Try.ntmps10
  go_wp2_with (first
    | (go_at_call 11; refine (disk_new _ _).mono ?_; rintro e w1 ⟨rfl, hd, hb⟩; have HD1 := Aside0.mk (show DiskC w1 (w.heap.size + 1) w.heap.size 0 hD0 from hd); have HB1 := Aside0.mk hb; clear hd hb
       have hap := disk_append HD1.out (by decide) ⟨#[102]⟩ ⟨#[97, 98]⟩ (by decide)
       rw [hd1] at hap
       have HAP := Aside0.mk hap
       clear hap)
    | (go_at_call 13; refine HAP.out.mono ?_; rintro e w2 ⟨rfl, hd, hf⟩
       have HD2 := Aside0.mk hd
       have HB2 := Aside0.mk (fr_below HB1.out (Nat.le_succ _) (Nat.le_refl _) hf)
       have hsy := disk_sync hd (by decide) ⟨#[102]⟩ (by decide)
       rw [hd2] at hsy
       have HSY := Aside0.mk hsy
       clear hd hf hsy HAP)
    | (go_at_call 19; refine HSY.out.mono ?_; rintro e w3 ⟨rfl, hd, hf⟩
       have HD3 := Aside0.mk hd
       have HB3 := Aside0.mk (fr_below HB2.out (Nat.le_succ _) (Nat.le_refl _) hf)
       have hap := disk_append hd (by decide) ⟨#[102]⟩ ⟨#[99, 100]⟩ (by decide)
       rw [hd3] at hap
       have HAQ := Aside0.mk hap
       clear hd hf hap)
    | (go_at_call 13; refine HAQ.out.mono ?_; rintro e w4 ⟨rfl, hd, hf⟩
       have hb4 := fr_below HB3.out (Nat.le_succ _) (Nat.le_refl _) hf
       have hba : Below w4.heap.size w4 (w4.alloc (.cells #[.int .i64 1] 3)) := below_alloc (Below.refl _ _) _
       have HB4 := Aside0.mk (below_step hb4 hba)
       have HCR := Aside0.mk (disk_crash (hd.below hba) (by decide) [1] (some ⟨w4.heap.size, 0, none⟩) 1 (one_i w4 1))
       clear hd hf hb4 hba)
    | (go_at_call 15; refine HCR.out.mono ?_; rintro e w5 ⟨d', b', rfl, hd, _, _, hb⟩
       have hrd := disk_read hd (x := ⟨#[102]⟩) (by decide)
       rw [hd4.1, hd4.2] at hrd
       have HRD := Aside0.mk hrd
       have HB5 := Aside0.mk (below_step HB4.out hb)
       clear hd hb hrd)
    | (go_at_call 16; refine HRD.out.mono ?_; rintro e w6 ⟨rfl, hb⟩; have HB6 := Aside0.mk (below_step HB5.out hb); clear hb))
  go_ret
  exact ⟨rfl, HB6.out⟩
end Go.Proofs.Ythcjoiflkhbpfaa.Dk
end
section
set_option linter.unusedVariables false
set_option maxRecDepth 100000
set_option linter.unusedSimpArgs false
namespace Go.Proofs.Ythcjoiflkhbpfaa.Dk
open Go.RowKit Go.Maps Go.WideMaps Go.Sort Go.Shelf Go.Proofs.YthcjoiflkhbpfaaW.PrintWords Go.Proofs.YthcjoiflkhbpfaaW.PrintLast Go.Proofs.YthcjoiflkhbpfaaW.PrintMore Go.Proofs.Ythcjoiflkhbpfaa.Mv
/-- the low bits of a number, at 64 bits -/
theorem low_bits (n m : Int) (k : Nat) (hm : (BitVec.ofInt 64 m).toNat = 2 ^ k - 1) : bits .and .i64 n m = IntKind.i64.wrap (((n % 18446744073709551616).toNat % 2 ^ k : Nat) : Int) := by
  have h : (BitVec.ofInt 64 n &&& BitVec.ofInt 64 m).toNat = (n % 18446744073709551616).toNat % 2 ^ k := by
    rw [BitVec.toNat_and, hm, Nat.and_two_pow_sub_one_eq_mod, BitVec.toNat_ofInt]
    rfl
  rw [← h]
  rfl
theorem put_one (x a a' : ByteArray) (s s' : Int) : putF [⟨x, a, s⟩] ⟨x, a', s'⟩ = [⟨x, a', s'⟩] := by
  unfold putF
  have e1 : lo [(⟨x, a, s⟩ : Fi)] x = [] := List.filter_eq_nil_iff.2 (fun f hf => by rw [List.mem_singleton] at hf; subst hf; simpa using nl_irrefl x)
  have e2 : hi [(⟨x, a, s⟩ : Fi)] x = [] := List.filter_eq_nil_iff.2 (fun f hf => by rw [List.mem_singleton] at hf; subst hf; simpa using nl_irrefl x)
  rw [e1, e2]
  rfl
theorem find_one (x a : ByteArray) (s : Int) : findF [⟨x, a, s⟩] x = some ⟨x, a, s⟩ := by
  unfold findF
  rw [List.find?_cons_of_pos (by simp)]
end Go.Proofs.Ythcjoiflkhbpfaa.Dk
end
section
set_option linter.unusedVariables false
set_option maxRecDepth 100000
set_option linter.unusedSimpArgs false
namespace Go.Proofs.Ythcjoiflkhbpfaa.Dk
open Go.RowKit Go.Maps Go.WideMaps Go.Sort Go.Shelf Go.Proofs.YthcjoiflkhbpfaaW.PrintWords Go.Proofs.YthcjoiflkhbpfaaW.PrintLast Go.Proofs.YthcjoiflkhbpfaaW.PrintMore Go.Proofs.Ythcjoiflkhbpfaa.Mv
structure Up (M : DM) : Prop where
  ok : OkM M
  dn : M.down = false
  fl : M.fall = -1
theorem Up.out {M : DM} (h : Up M) : ¬ out M = true := by
  unfold Dk.out
  rw [h.dn, h.fl]
  decide
theorem Up.went {M : DM} (h : Up M) : went M = M := by
  unfold Dk.went
  rw [if_neg (by rw [h.fl]; decide)]
theorem Up.act {M : DM} (h : Up M) (G : DM → Int × DM) : act G M = G M := by rw [act_in h.out, h.went]
def pA (M : DM) (x t : ByteArray) : DM := { M with fs := putF M.fs ⟨x, (curF M.fs x).f1 ++ t, (curF M.fs x).f2⟩ }
theorem Up.pA {M : DM} (h : Up M) {x t : ByteArray} (hb : bad x = false) (hr : ¬ roomM M < t.size) : Up (pA M x t) ∧ appendG M x t = (0, Dk.pA M x t) ∧ roomM (Dk.pA M x t) = roomM M - t.size := by
  have h1 : appendG M x t = (0, Dk.pA M x t) := by
    unfold appendG
    rw [hb, if_neg (by decide), if_neg hr]
    rfl
  refine ⟨⟨?_, h.dn, h.fl⟩, h1, ?_⟩
  · have := ok_append h.ok x t
    rw [h1] at this
    exact this
  · unfold roomM Dk.pA
    show M.size - sumD (putF M.fs _) = _
    rw [sumD_put h.ok.srt, ← size_cur]
    show M.size - (sumD M.fs - ((curF M.fs x).f1.size : Int) + (((curF M.fs x).f1 ++ t).size : Int)) = _
    rw [ByteArray.size_append]
    omega
theorem Up.room {M : DM} (h : Up M) : 0 ≤ roomM M ∧ roomM M ≤ 1048576 := by
  have h1 := h.ok.room
  have h2 := h.ok.size
  have h3 := sumD_nonneg M.fs
  unfold roomM at *
  omega
theorem up_new (x : Int) : Up (newM x) := ⟨ok_new x, rfl, rfl⟩
end Go.Proofs.Ythcjoiflkhbpfaa.Dk
end
section
set_option linter.unusedVariables false
set_option maxRecDepth 100000
set_option linter.unusedSimpArgs false
namespace Go.Proofs.Ythcjoiflkhbpfaa.Dk
open Go.RowKit Go.Maps Go.WideMaps Go.Sort Go.Shelf Go.Proofs.YthcjoiflkhbpfaaW.PrintWords Go.Proofs.YthcjoiflkhbpfaaW.PrintLast Go.Proofs.YthcjoiflkhbpfaaW.PrintMore Go.Proofs.Ythcjoiflkhbpfaa.Mv
theorem nil_app (a : ByteArray) : (⟨#[]⟩ : ByteArray) ++ a = a := by
  refine bytes_ext ?_
  rw [ByteArray.data_append]
  simp
/-- one file, on a disk of 1000 -/
def oM (x a : ByteArray) (s : Int) : DM := ⟨[⟨x, a, s⟩], 1000, false, -1⟩
theorem up_one {x a : ByteArray} {s : Int} (hx : x.size ≤ 40) (ha : a.size ≤ 1000) (h0 : 0 ≤ s) (h1 : s ≤ a.size) : Up (oM x a s) := by
  refine ⟨⟨List.pairwise_singleton _ _, ?_, ?_, ?_, ?_, ?_⟩, rfl, rfl⟩
  · intro f hf
    rw [show (oM x a s).fs = [⟨x, a, s⟩] from rfl, List.mem_singleton] at hf
    subst hf
    exact ⟨h0, h1⟩
  · intro f hf
    rw [show (oM x a s).fs = [⟨x, a, s⟩] from rfl, List.mem_singleton] at hf
    subst hf
    exact hx
  · show (0 : Int) ≤ 1000 - ((a.size : Int) + 0)
    omega
  · show (0 : Int) ≤ 1000 ∧ (1000 : Int) ≤ 1048576
    omega
  · show (-1 : Int) ≤ -1 ∧ (-1 : Int) ≤ _
    omega
theorem one_room (x a : ByteArray) (s : Int) : roomM (oM x a s) = 1000 - (a.size : Int) := by
  show (1000 : Int) - ((a.size : Int) + 0) = _
  omega
theorem one_first (x a : ByteArray) (hb : bad x = false) (ha : a.size ≤ 1000) : act (fun M => appendG M x a) (newM 1000) = (0, oM x a 0) := by
  have hr : roomM (newM 1000) = 1000 := rfl
  rw [(up_new 1000).act, ((up_new 1000).pA hb (by rw [hr]; omega)).2.1]
  have e : pA (newM 1000) x a = ⟨[⟨x, ⟨#[]⟩ ++ a, 0⟩], 1000, false, -1⟩ := rfl
  rw [e, nil_app]
  rfl
theorem cur_one (x a : ByteArray) (s : Int) : curF (oM x a s).fs x = ⟨x, a, s⟩ := by
  unfold curF
  rw [show (oM x a s).fs = [⟨x, a, s⟩] from rfl, find_one]
  rfl
theorem one_app {x a t : ByteArray} {s : Int} (hb : bad x = false) (hu : Up (oM x a s)) (ha : a.size + t.size ≤ 1000) : act (fun M => appendG M x t) (oM x a s) = (0, oM x (a ++ t) s) := by
  rw [hu.act, (hu.pA hb (by rw [one_room]; omega)).2.1]
  unfold pA
  rw [cur_one]
  show ((0 : Int), (⟨putF [⟨x, a, s⟩] ⟨x, a ++ t, s⟩, 1000, false, -1⟩ : DM)) = _
  rw [put_one]
  rfl
theorem one_sync {x a : ByteArray} {s : Int} (hu : Up (oM x a s)) : act (fun M => syncG M x) (oM x a s) = (0, oM x a (a.size : Int)) := by
  rw [hu.act]
  unfold syncG
  rw [show (oM x a s).fs = [⟨x, a, s⟩] from rfl, find_one]
  show ((0 : Int), (⟨putF [⟨x, a, s⟩] ⟨x, a, (a.size : Int)⟩, 1000, false, -1⟩ : DM)) = _
  rw [put_one]
  rfl
theorem one_read (x a : ByteArray) (s : Int) : readV (oM x a s) x = a ∧ readE (oM x a s) x = 0 := by
  constructor
  · unfold readV
    rw [show (oM x a s).fs = [⟨x, a, s⟩] from rfl, find_one]
    rfl
  · unfold readE
    rw [show (oM x a s).fs = [⟨x, a, s⟩] from rfl, find_one]
    rfl
end Go.Proofs.Ythcjoiflkhbpfaa.Dk
end
section
set_option linter.unusedVariables false
set_option maxRecDepth 100000
set_option linter.unusedSimpArgs false
namespace Go.Proofs.Ythcjoiflkhbpfaa.Dk
open Go.RowKit Go.Maps Go.WideMaps Go.Sort Go.Shelf Go.Proofs.YthcjoiflkhbpfaaW.PrintWords Go.Proofs.YthcjoiflkhbpfaaW.PrintLast Go.Proofs.YthcjoiflkhbpfaaW.PrintMore Go.Proofs.Ythcjoiflkhbpfaa.Mv
/-- two files, on a disk of 1000 -/
def tM (a : ByteArray) (s : Int) (c : ByteArray) (t : Int) : DM := ⟨[⟨⟨#[120]⟩, a, s⟩, ⟨⟨#[121]⟩, c, t⟩], 1000, false, -1⟩
theorem up_two {a c : ByteArray} {s t : Int} (ha : a.size ≤ 100) (hc : c.size ≤ 100) (h0 : 0 ≤ s) (h1 : s ≤ a.size) (h2 : 0 ≤ t) (h3 : t ≤ c.size) : Up (tM a s c t) := by
  refine ⟨⟨?_, ?_, ?_, ?_, ?_, ?_⟩, rfl, rfl⟩
  · show List.Pairwise (fun a b : Fi => nl a.f0 b.f0) [⟨⟨#[120]⟩, a, s⟩, ⟨⟨#[121]⟩, c, t⟩]
    refine List.pairwise_cons.2 ⟨fun f hf => ?_, List.pairwise_singleton _ _⟩
    rw [List.mem_singleton] at hf
    subst hf
    show nl ⟨#[120]⟩ ⟨#[121]⟩
    decide
  · intro f hf
    rw [show (tM a s c t).fs = [⟨⟨#[120]⟩, a, s⟩, ⟨⟨#[121]⟩, c, t⟩] from rfl, List.mem_cons, List.mem_singleton] at hf
    rcases hf with rfl | rfl
    · exact ⟨h0, h1⟩
    · exact ⟨h2, h3⟩
  · intro f hf
    rw [show (tM a s c t).fs = [⟨⟨#[120]⟩, a, s⟩, ⟨⟨#[121]⟩, c, t⟩] from rfl, List.mem_cons, List.mem_singleton] at hf
    rcases hf with rfl | rfl
    · show (1 : Nat) ≤ 40; decide
    · show (1 : Nat) ≤ 40; decide
  · show (0 : Int) ≤ 1000 - ((a.size : Int) + ((c.size : Int) + 0))
    omega
  · show (0 : Int) ≤ 1000 ∧ (1000 : Int) ≤ 1048576
    omega
  · show (-1 : Int) ≤ -1 ∧ (-1 : Int) ≤ _
    omega
theorem two_app {a c : ByteArray} {s : Int} (hu : Up (oM ⟨#[120]⟩ a s)) (ha : a.size + c.size ≤ 1000) : act (fun M => appendG M ⟨#[121]⟩ c) (oM ⟨#[120]⟩ a s) = (0, tM a s c 0) := by
  rw [hu.act, (hu.pA (by decide) (by rw [one_room]; omega)).2.1]
  have e : pA (oM ⟨#[120]⟩ a s) ⟨#[121]⟩ c = ⟨[⟨⟨#[120]⟩, a, s⟩, ⟨⟨#[121]⟩, ⟨#[]⟩ ++ c, 0⟩], 1000, false, -1⟩ := rfl
  rw [e, nil_app]
  rfl
theorem two_sync {a c : ByteArray} {s t : Int} (hu : Up (tM a s c t)) : act (fun M => syncG M ⟨#[121]⟩) (tM a s c t) = (0, tM a s c (c.size : Int)) := by
  rw [hu.act]
  rfl
theorem two_move {a c : ByteArray} {s t : Int} (hu : Up (tM a s c t)) : act (fun M => renameG M ⟨#[120]⟩ ⟨#[121]⟩) (tM a s c t) = (0, oM ⟨#[121]⟩ a s) := by
  rw [hu.act]
  rfl
theorem two_stay {a c : ByteArray} {s t : Int} (hu : Up (tM a s c t)) : act (fun M => renameG M ⟨#[120]⟩ ⟨#[120]⟩) (tM a s c t) = (0, tM a s c t) := by
  rw [hu.act]
  rfl
theorem two_none {a c : ByteArray} {s t : Int} (hu : Up (tM a s c t)) : act (fun M => renameG M ⟨#[110, 111, 110, 101]⟩ ⟨#[122]⟩) (tM a s c t) = (5, tM a s c t) := by
  rw [hu.act]
  rfl
theorem one_none {a : ByteArray} {s : Int} (hu : Up (oM ⟨#[121]⟩ a s)) : act (fun M => renameG M ⟨#[110, 111, 110, 101]⟩ ⟨#[122]⟩) (oM ⟨#[121]⟩ a s) = (5, oM ⟨#[121]⟩ a s) := by
  rw [hu.act]
  rfl
theorem two_readx (a c : ByteArray) (s t : Int) : readV (tM a s c t) ⟨#[120]⟩ = a ∧ readE (tM a s c t) ⟨#[120]⟩ = 0 := ⟨rfl, rfl⟩
theorem one_readx (a : ByteArray) (s : Int) : readE (oM ⟨#[121]⟩ a s) ⟨#[120]⟩ = 5 := rfl
theorem two_crash (a c : ByteArray) (s t : Int) : readV (crashM (tM a s c t) []) ⟨#[120]⟩ = a.extract 0 s.toNat ∧ readE (crashM (tM a s c t) []) ⟨#[120]⟩ = 0 := ⟨rfl, rfl⟩
theorem one_crashy (a : ByteArray) (s : Int) : readV (crashM (oM ⟨#[121]⟩ a s) []) ⟨#[121]⟩ = a.extract 0 s.toNat ∧ readE (crashM (oM ⟨#[121]⟩ a s) []) ⟨#[121]⟩ = 0 := ⟨rfl, rfl⟩
theorem ext_split (a : ByteArray) (k : Nat) (h : k ≤ a.size) : a.extract 0 k ++ a.extract k a.size = a := by
  refine bytes_ext ?_
  rw [ByteArray.data_append, ByteArray.data_extract, ByteArray.data_extract]
  have h2 : a.data.size = a.size := rfl
  rw [Array.extract_append_extract]
  simp [h2]
  rw [show max k a.size = a.size by omega]
  exact List.take_of_length_le (by rw [Array.length_toList]; exact Nat.le_refl _)
theorem rem_facts {low : Int} {n q : Nat} (hn : n ≤ 1000) (hq : (low % 256) % ((n : Int) + 1) = (q : Int)) : ∃ a N1 : Nat, bits .and .i64 low 255 = (a : Int) ∧ IntKind.i64.wrap ((n : Int) + 1) = (N1 : Int) ∧ wrap64 ((n : Int) + 1) = (N1 : Int) ∧ Int.tmod (a : Int) (N1 : Int) = (q : Int) ∧ ¬ (N1 : Int) = 0 ∧ ¬ N1 = 0 ∧ ((N1 : Int) == 0) = false ∧ q ≤ n := by
  have e0 : 0 ≤ low % 256 := by omega
  have m1 : bits .and .i64 low 255 = ((low % 256).toNat : Int) := by
    clear hq
    rw [low_bits low 255 8 (by decide), IntKind.wrap_i64]; omega
  have w1 : IntKind.i64.wrap ((n : Int) + 1) = ((n + 1 : Nat) : Int) := by clear hq; rw [IntKind.wrap_i64]; omega
  have w2 : wrap64 ((n : Int) + 1) = ((n + 1 : Nat) : Int) := by clear hq w1; rw [w64 (by omega) (by omega)]; rfl
  have hN : ((n + 1 : Nat) : Int) = (n : Int) + 1 := rfl
  have ha : ((low % 256).toNat : Int) = low % 256 := Int.toNat_of_nonneg e0
  have hlt : (q : Int) < (n : Int) + 1 := by rw [← hq]; exact Int.emod_lt_of_pos _ (by clear hq; omega)
  refine ⟨(low % 256).toNat, n + 1, m1, w1, w2, ?_, ?_, Nat.succ_ne_zero n, ?_, ?_⟩
  · rw [Int.tmod_eq_emod_of_nonneg (Int.natCast_nonneg _), ha, hN]; exact hq
  · clear hq; omega
  · exact beq_eq_false_iff_ne.2 (by clear hq; omega)
  · clear hq; omega
set_option maxHeartbeats 16000000 in
theorem moves_in (a b : ByteArray) (s0 : Int) (sm : Bool) (w : World) (ha : a.size ≤ 60) (hb : b.size ≤ 60) : Calls Try.prog 6 #[.string a, .string b, .int .i64 s0, .bool sm] w fun e w' => e = .returned (.bool true) ∧ Below w.heap.size w w' := by
  obtain ⟨q, hq⟩ : ∃ q : Nat, (s0 % 256) % ((a.size : Int) + 1) = (q : Int) := ⟨((s0 % 256) % ((a.size : Int) + 1)).toNat, (Int.toNat_of_nonneg (Int.emod_nonneg _ (by omega))).symm⟩
  have hql : q ≤ a.size := by
    have h1 : (q : Int) < (a.size : Int) + 1 := by rw [← hq]; exact Int.emod_lt_of_pos _ (by clear hq; omega)
    clear hq
    omega
  have n1 : ¬ (60 : Int) < (a.size : Int) := by clear hq; omega
  have n2 : ¬ (60 : Int) < (b.size : Int) := by clear hq; omega
  have q0 : (0 : Int) ≤ (q : Int) := by clear hq; omega
  have q1 : (q : Int) ≤ (a.size : Int) := by clear hq; omega
  have HQ := Aside0.mk hq
  clear hq
  have hs1 : (a.extract 0 q).size = q := by rw [ByteArray.size_extract]; omega
  have hs2 : (a.extract q a.size).size = a.size - q := by rw [ByteArray.size_extract]; omega
  have HU0 : Aside0 (Up (oM ⟨#[120]⟩ (a.extract 0 q) 0)) := ⟨up_one (by decide) (by omega) (Int.le_refl _) (by omega)⟩
  have HU1 : Aside0 (Up (oM ⟨#[120]⟩ (a.extract 0 q) (q : Int))) := ⟨up_one (by decide) (by omega) (by omega) (by omega)⟩
  have HU2 : Aside0 (Up (oM ⟨#[120]⟩ a (q : Int))) := ⟨up_one (by decide) (by omega) (by omega) (by omega)⟩
  have HU3 : Aside0 (Up (tM a (q : Int) b 0)) := ⟨up_two (by omega) (by omega) (by omega) (by omega) (by omega) (by omega)⟩
  have HU4 : Aside0 (Up (tM a (q : Int) b (b.size : Int))) := ⟨up_two (by omega) (by omega) (by omega) (by omega) (by omega) (by omega)⟩
  have HU5 : Aside0 (Up (oM ⟨#[121]⟩ a (q : Int))) := ⟨up_one (by decide) (by omega) (by omega) (by omega)⟩
  have E0 := Aside0.mk (one_first ⟨#[120]⟩ (a.extract 0 q) (by decide) (by omega))
  have E1 := Aside0.mk (one_sync HU0.out)
  rw [hs1] at E1
  have E2 := Aside0.mk (one_app (t := a.extract q a.size) (by decide) HU1.out (by omega))
  rw [ext_split a q hql] at E2
  have E3 := Aside0.mk (two_app (c := b) HU2.out (by omega))
  have E4 := Aside0.mk (two_sync HU3.out)
  have Z0 : Aside0 ((a.extract 0 q).size ≤ 140737488351232) := ⟨by omega⟩
  have Z1 : Aside0 ((a.extract q a.size).size ≤ 140737488351232) := ⟨by omega⟩
  have Z2 : Aside0 (b.size ≤ 140737488351232) := ⟨by omega⟩
  have sl : (a.size : Int) ≤ (a.size : Int) := Int.le_refl _
  obtain ⟨lo8, N1, m1, wr1, wr2, hrem, hnz, hnz2, hnb, _⟩ := rem_facts (show a.size ≤ 1000 by omega) HQ.out
  clear ha hb hs1 hs2 hql
  cases sm with
  | true =>
    have E5 := Aside0.mk (two_stay HU4.out)
    have R1 := Aside0.mk (two_readx a b (q : Int) (b.size : Int))
    have R2 := Aside0.mk (two_crash a b (q : Int) (b.size : Int))
    have E6 := Aside0.mk (two_none HU4.out)
    rw [Int.toNat_natCast] at R2
    generalize htt : tM a (q : Int) b (b.size : Int) = T at *
    clear htt
    go_enter Try.func6, Try.ntmps6
    go_wp2_with (first
      | (go_at_call 10; refine (head_any _).mono ?_; rintro e w1 ⟨rfl, hb⟩; have HB1 := Aside0.mk hb; clear hb)
      | (go_at_call 11; refine (disk_new _ _).mono ?_; rintro e w2 ⟨rfl, hd, hb⟩; have HB2 := Aside0.mk (below_step HB1.out hb); have HSZ : Aside0 (w.heap.size ≤ w1.heap.size) := ⟨HB1.out.size⟩; have h := disk_append hd (by decide) ⟨#[120]⟩ (a.extract 0 q) Z0.out; rw [E0.out] at h; have HC0 := Aside0.mk h; clear hd hb HB1 h)
      | (go_at_call 13; refine HC0.out.mono ?_; rintro e w3 ⟨rfl, hd, hf⟩; have HB3 := Aside0.mk (fr_below HB2.out (Nat.le_succ_of_le HSZ.out) HSZ.out hf); have h := disk_sync hd (by decide) ⟨#[120]⟩ (by decide); rw [E1.out] at h; have HY0 := Aside0.mk h; clear hd hf HB2 HC0 h)
      | (go_at_call 19; refine HY0.out.mono ?_; rintro e w4 ⟨rfl, hd, hf⟩; have HB4 := Aside0.mk (fr_below HB3.out (Nat.le_succ_of_le HSZ.out) HSZ.out hf); have h := disk_append hd (by decide) ⟨#[120]⟩ (a.extract q a.size) Z1.out; rw [E2.out] at h; have HC1 := Aside0.mk h; clear hd hf HB3 HY0 h)
      | (go_at_call 13; refine HC1.out.mono ?_; rintro e w5 ⟨rfl, hd, hf⟩; have HB5 := Aside0.mk (fr_below HB4.out (Nat.le_succ_of_le HSZ.out) HSZ.out hf); have h := disk_append hd (by decide) ⟨#[121]⟩ b Z2.out; rw [E3.out] at h; have HC2 := Aside0.mk h; clear hd hf HB4 HC1 h)
      | (go_at_call 13; refine HC2.out.mono ?_; rintro e w6 ⟨rfl, hd, hf⟩; have HB6 := Aside0.mk (fr_below HB5.out (Nat.le_succ_of_le HSZ.out) HSZ.out hf); have h := disk_sync hd (by decide) ⟨#[121]⟩ (by decide); rw [E4.out] at h; have HY1 := Aside0.mk h; clear hd hf HB5 HC2 h)
      | (go_at_call 19; refine HY1.out.mono ?_; rintro e w7 ⟨rfl, hd, hf⟩; have HB7 := Aside0.mk (fr_below HB6.out (Nat.le_succ_of_le HSZ.out) HSZ.out hf); have h := disk_rename hd (by decide) ⟨#[120]⟩ ⟨#[120]⟩ (by decide); rw [E5.out] at h; have HM := Aside0.mk h; clear hd hf HB6 HY1 h)
      | (go_at_call 21; refine HM.out.mono ?_; rintro e w8 ⟨rfl, hd, hf⟩; have HB8 := Aside0.mk (fr_below HB7.out (Nat.le_succ_of_le HSZ.out) HSZ.out hf); have HD8 := Aside0.mk hd; have h := disk_read hd (x := ⟨#[120]⟩) (by decide); rw [R1.out.1, R1.out.2] at h; have HR1 := Aside0.mk h; clear hd hf HB7 HM h)
      | (go_at_call 16; refine HR1.out.mono ?_; rintro e w9 ⟨rfl, hb⟩; have HB9 := Aside0.mk (below_step HB8.out hb); have HD9 := Aside0.mk (HD8.out.below hb); have h := disk_crash HD9.out (by decide) [] none 0 (Kd.C_nil _ _); have HK := Aside0.mk h; clear hb HB8 HD8 HR1 h)
      | (go_at_call 15; refine HK.out.mono ?_; rintro e w10 ⟨d', b', rfl, hd, _, _, hb⟩; have HB10 := Aside0.mk (below_step HB9.out hb); have HD10 := Aside0.mk (HD9.out.below hb); have h := disk_read hd (x := ⟨#[120]⟩) (by decide); rw [R2.out.1, R2.out.2] at h; have HR2 := Aside0.mk h; clear hd hb HB9 HD9 HK h)
      | (go_at_call 16; refine HR2.out.mono ?_; rintro e w11 ⟨rfl, hb⟩; have HB11 := Aside0.mk (below_step HB10.out hb); have HD11 := Aside0.mk (HD10.out.below hb); have h := disk_read HD11.out (x := ⟨#[120]⟩) (by decide); rw [R1.out.1, R1.out.2] at h; have HR3 := Aside0.mk h; clear hb HB10 HD10 HR2 h)
      | (go_at_call 16; refine HR3.out.mono ?_; rintro e w12 ⟨rfl, hb⟩; have HB12 := Aside0.mk (below_step HB11.out hb); have HD12 := Aside0.mk (HD11.out.below hb); have h := disk_rename HD12.out (by decide) ⟨#[110, 111, 110, 101]⟩ ⟨#[122]⟩ (by decide); rw [E6.out] at h; have HM2 := Aside0.mk h; clear hb HB11 HD11 HR3 h)
      | (go_at_call 21; refine HM2.out.mono ?_; rintro e w13 ⟨rfl, hd, hf⟩; have HB13 := Aside0.mk (fr_below HB12.out (Nat.le_succ_of_le HSZ.out) HSZ.out hf); clear hd hf HB12 HM2))
    go_ret
    exact ⟨by simp, HB13.out⟩
  | false =>
    have E5 := Aside0.mk (two_move HU4.out)
    have R1 := Aside0.mk (one_read ⟨#[121]⟩ a (q : Int))
    have R3 := Aside0.mk (one_readx a (q : Int))
    have R2 := Aside0.mk (one_crashy a (q : Int))
    have E6 := Aside0.mk (one_none HU5.out)
    rw [Int.toNat_natCast] at R2
    generalize htt : oM ⟨#[121]⟩ a (q : Int) = T at *
    clear htt
    go_enter Try.func6, Try.ntmps6
    go_wp2_with (first
      | (go_at_call 10; refine (head_any _).mono ?_; rintro e w1 ⟨rfl, hb⟩; have HB1 := Aside0.mk hb; clear hb)
      | (go_at_call 11; refine (disk_new _ _).mono ?_; rintro e w2 ⟨rfl, hd, hb⟩; have HB2 := Aside0.mk (below_step HB1.out hb); have HSZ : Aside0 (w.heap.size ≤ w1.heap.size) := ⟨HB1.out.size⟩; have h := disk_append hd (by decide) ⟨#[120]⟩ (a.extract 0 q) Z0.out; rw [E0.out] at h; have HC0 := Aside0.mk h; clear hd hb HB1 h)
      | (go_at_call 13; refine HC0.out.mono ?_; rintro e w3 ⟨rfl, hd, hf⟩; have HB3 := Aside0.mk (fr_below HB2.out (Nat.le_succ_of_le HSZ.out) HSZ.out hf); have h := disk_sync hd (by decide) ⟨#[120]⟩ (by decide); rw [E1.out] at h; have HY0 := Aside0.mk h; clear hd hf HB2 HC0 h)
      | (go_at_call 19; refine HY0.out.mono ?_; rintro e w4 ⟨rfl, hd, hf⟩; have HB4 := Aside0.mk (fr_below HB3.out (Nat.le_succ_of_le HSZ.out) HSZ.out hf); have h := disk_append hd (by decide) ⟨#[120]⟩ (a.extract q a.size) Z1.out; rw [E2.out] at h; have HC1 := Aside0.mk h; clear hd hf HB3 HY0 h)
      | (go_at_call 13; refine HC1.out.mono ?_; rintro e w5 ⟨rfl, hd, hf⟩; have HB5 := Aside0.mk (fr_below HB4.out (Nat.le_succ_of_le HSZ.out) HSZ.out hf); have h := disk_append hd (by decide) ⟨#[121]⟩ b Z2.out; rw [E3.out] at h; have HC2 := Aside0.mk h; clear hd hf HB4 HC1 h)
      | (go_at_call 13; refine HC2.out.mono ?_; rintro e w6 ⟨rfl, hd, hf⟩; have HB6 := Aside0.mk (fr_below HB5.out (Nat.le_succ_of_le HSZ.out) HSZ.out hf); have h := disk_sync hd (by decide) ⟨#[121]⟩ (by decide); rw [E4.out] at h; have HY1 := Aside0.mk h; clear hd hf HB5 HC2 h)
      | (go_at_call 19; refine HY1.out.mono ?_; rintro e w7 ⟨rfl, hd, hf⟩; have HB7 := Aside0.mk (fr_below HB6.out (Nat.le_succ_of_le HSZ.out) HSZ.out hf); have h := disk_rename hd (by decide) ⟨#[120]⟩ ⟨#[121]⟩ (by decide); rw [E5.out] at h; have HM := Aside0.mk h; clear hd hf HB6 HY1 h)
      | (go_at_call 21; refine HM.out.mono ?_; rintro e w8 ⟨rfl, hd, hf⟩; have HB8 := Aside0.mk (fr_below HB7.out (Nat.le_succ_of_le HSZ.out) HSZ.out hf); have HD8 := Aside0.mk hd; have h := disk_read hd (x := ⟨#[121]⟩) (by decide); rw [R1.out.1, R1.out.2] at h; have HR1 := Aside0.mk h; clear hd hf HB7 HM h)
      | (go_at_call 16; refine HR1.out.mono ?_; rintro e w9 ⟨rfl, hb⟩; have HB9 := Aside0.mk (below_step HB8.out hb); have HD9 := Aside0.mk (HD8.out.below hb); have h := disk_crash HD9.out (by decide) [] none 0 (Kd.C_nil _ _); have HK := Aside0.mk h; clear hb HB8 HD8 HR1 h)
      | (go_at_call 15; refine HK.out.mono ?_; rintro e w10 ⟨d', b', rfl, hd, _, _, hb⟩; have HB10 := Aside0.mk (below_step HB9.out hb); have HD10 := Aside0.mk (HD9.out.below hb); have h := disk_read hd (x := ⟨#[121]⟩) (by decide); rw [R2.out.1, R2.out.2] at h; have HR2 := Aside0.mk h; clear hd hb HB9 HD9 HK h)
      | (go_at_call 16; refine HR2.out.mono ?_; rintro e w11 ⟨rfl, hb⟩; have HB11 := Aside0.mk (below_step HB10.out hb); have HD11 := Aside0.mk (HD10.out.below hb); have h := disk_read HD11.out (x := ⟨#[120]⟩) (by decide); rw [R3.out] at h; have HR3 := Aside0.mk h; clear hb HB10 HD10 HR2 h)
      | (go_at_call 16; refine HR3.out.mono ?_; rintro e w12 ⟨rfl, hb⟩; have HB12 := Aside0.mk (below_step HB11.out hb); have HD12 := Aside0.mk (HD11.out.below hb); have h := disk_rename HD12.out (by decide) ⟨#[110, 111, 110, 101]⟩ ⟨#[122]⟩ (by decide); rw [E6.out] at h; have HM2 := Aside0.mk h; clear hb HB11 HD11 HR3 h)
      | (go_at_call 21; refine HM2.out.mono ?_; rintro e w13 ⟨rfl, hd, hf⟩; have HB13 := Aside0.mk (fr_below HB12.out (Nat.le_succ_of_le HSZ.out) HSZ.out hf); clear hd hf HB12 HM2))
    go_ret
    exact ⟨by simp, HB13.out⟩
set_option maxHeartbeats 2000000 in
theorem moves_big (a b : ByteArray) (s0 : Int) (sm : Bool) (w : World) (h : ¬ (a.size ≤ 60 ∧ b.size ≤ 60)) : Calls Try.prog 6 #[.string a, .string b, .int .i64 s0, .bool sm] w fun e w' => e = .returned (.bool true) ∧ Below w.heap.size w w' := by
  have hs : (60 : Int) < (a.size : Int) ∨ (¬ (60 : Int) < (a.size : Int) ∧ (60 : Int) < (b.size : Int)) := by omega
  clear h
  rcases hs with n1 | ⟨n1, n2⟩
  all_goals
    go_enter Try.func6, Try.ntmps6
    go_wp2_with (go_at_call 10; refine (head_any _).mono ?_; rintro e w1 ⟨rfl, hb⟩; have HB1 := Aside0.mk hb; clear hb)
    go_ret
    exact ⟨rfl, HB1.out⟩
theorem diskMoves_walk (a b : ByteArray) (s0 : Int) (sm : Bool) (w : World) (_ : a.size ≤ 140737488351232) (_ : b.size ≤ 140737488351232) (_ : (Lit.int .i64 s0).wf = true) : Calls Try.prog 6 #[.string a, .string b, .int .i64 s0, .bool sm] w fun e w' => e = .returned (.bool true) ∧ Below w.heap.size w w' := by
  by_cases h : a.size ≤ 60 ∧ b.size ≤ 60
  · exact moves_in a b s0 sm w h.1 h.2
  · exact moves_big a b s0 sm w h
end Go.Proofs.Ythcjoiflkhbpfaa.Dk
end
