/- Lemmas that the proof needs, part 5. -/
import Derived.Test.YthcjoiflkhbpfaaWWords
import Derived.Test.YthcjoiflkhbpfaaKf1
import Derived.Test.YthcjoiflkhbpfaaKf2
import Derived.Test.YthcjoiflkhbpfaaKf3
import Derived.Test.YthcjoiflkhbpfaaKf4
section
set_option linter.unusedVariables false
set_option maxRecDepth 100000
set_option linter.unusedSimpArgs false
namespace Go.Proofs.Ythcjoiflkhbpfaa.Dk
open Go.RowKit Go.Maps Go.WideMaps Go.Sort Go.Shelf Go.Proofs.YthcjoiflkhbpfaaW.PrintWords Go.Proofs.YthcjoiflkhbpfaaW.PrintLast Go.Proofs.YthcjoiflkhbpfaaW.PrintMore Go.Proofs.Ythcjoiflkhbpfaa.Mv
variable {w w' : World} {d b n : Nat} {M : DM}
def namesM (M : DM) : List ByteArray := M.fs.map (·.f0)
theorem names_perm {D : DV} {l : List Fi} (hs : Srt l) (hown : w.ownsMap Try.prog 9 rv b n D) (h : Says KS eF D (ent l)) : (l.map fun f => f.f0.data.toList).Perm (strKeys D) := by
  obtain ⟨es, hD, hpw, _⟩ := hown.entries KS.keyed
  obtain ⟨es', hD', hko⟩ := hown.keysOf
  obtain rfl : es = es' := by rw [hD] at hD'; simpa using hD'
  subst hD
  refine perm_strKeys hpw (fun p hp => by obtain ⟨v, hv⟩ := hko p hp; obtain ⟨x, _, hx, _⟩ := Maps.keyOf_str Try.underlying9 hv; exact ⟨x, hx⟩) ?_ (fun x => ?_)
  · unfold List.Nodup
    rw [List.pairwise_map]
    exact List.Pairwise.imp (fun {a b} hab e => nl_ne hab (bytes_ext e)) hs
  · have h1 := h.hs (⟨x.toArray⟩ : ByteArray)
    have e1 : KS.lk (⟨x.toArray⟩ : ByteArray) = .string x := by
      show Lit.string (⟨x.toArray⟩ : ByteArray).data.toList = _
      simp
    rw [e1, ent_find, Option.isSome_map] at h1
    rw [h1, List.mem_map]
    constructor
    · rintro ⟨f, hf, rfl⟩
      have := find_of hs hf
      have e2 : f.f0 = (⟨f.f0.data.toList.toArray⟩ : ByteArray) := bytes_ext (by simp)
      rw [← e2, this]
      rfl
    · intro hx
      obtain ⟨f, hf⟩ := Option.isSome_iff_exists.1 hx
      obtain ⟨g1, g2⟩ := find_mem hf
      exact ⟨f, g1, by rw [g2]⟩
theorem sort_names {l : List Fi} (hs : Srt l) {ss : List (List UInt8)} (hp : ss.Perm (l.map fun f => f.f0.data.toList)) : ss.mergeSort leB = l.map fun f => f.f0.data.toList := by
  rw [mergeSort_of_perm hp]
  refine List.mergeSort_of_pairwise ?_
  rw [List.pairwise_map]
  exact List.Pairwise.imp (fun {a b} hab => by
    show decide (a.f0.data.toList ≤ b.f0.data.toList) = true
    exact decide_eq_true (List.le_of_lt hab)) hs
theorem sortsL (m : Nat) : AnyZ.SortsIn Try.prog lSorted_ren Fence.wide m :=
  ⟨fun blk off cap ss W hH hblk hsz => callsIn_wide.2 (AnyM.slices_Sort_string lSort blk off cap ss W hH hblk hsz),
   fun p cap W => callsIn_wide.2 (AnyM.slices_Sort_string_none lSort p cap W)⟩
theorem keys_call (mb : Option Nat) (w : World) : Calls Try.prog 30 #[.map mb] w fun e w' => e = .returned (.func (.func 39) #[] #[.pointer (some ⟨w.heap.size, 0, none⟩)]) ∧ w' = w.alloc (.cells #[.map mb] 61) :=
  (callsIn_wide (n := 5)).1 (AnyZ.keys_in lKeys Fence.wide 5 trivial rfl mb w)
/-- slices.Sorted(maps.Keys(d.files)): the names in order, a new row. -/
theorem sorted_call (h : DiskC w d b n M) (hn : n ≤ 1000000) : Calls Try.prog 29 #[.func (.func 39) #[] #[.pointer (some ⟨w.heap.size, 0, none⟩)]] (w.alloc (.cells #[.map (some b)] 61)) fun e w' => ∃ v, e = .returned v ∧ Kd.R Kd.string 9 w' (w.heap.size + 1) (fun _ => True) v (namesM M) ∧ Below w.heap.size w w' := by
  have hsrt := h.ok.srt
  obtain ⟨D, hown, hsays⟩ := h.map
  have hbl := hown.lt
  have hsz : Maps.size D ≤ 1000000 := by
    have h1 := hsays.sz
    have h2 := h.map.le
    omega
  have hb : Below w.heap.size w (w.alloc (.cells #[.map (some b)] 61)) := below_alloc (Below.refl _ _) _
  have hown' : (w.alloc (.cells #[.map (some b)] 61)).ownsMap Try.prog 9 rv b n D := by
    obtain ⟨es, clock, q1, q2⟩ := hown
    exact ⟨es, clock, (hb.block b hbl).trans q1, q2⟩
  have hseq : SeqGives Fence.wide 2 Try.prog 39 #[.pointer (some ⟨w.heap.size, 0, none⟩)] encStr (fun ss => ss.Perm (strKeys D)) (Maps.size D) (w.alloc (.cells #[.map (some b)] 61)) :=
    AnyZ.keys_gives (ρ := lKeys_ren) { lKeys with } Fence.wide _ trivial rfl (by omega) w.heap.size b n D _ (by simp) (by simp) hown'
  have cS := AnyZ.sorted_in lSorted Fence.wide 5 trivial trivial trivial trivial rfl (by omega) (sortsL _) (enters_of Try.func38 (by kernel_rfl) rfl) 39 #[.pointer (some ⟨w.heap.size, 0, none⟩)] trivial (enters_of Try.func39 (by kernel_rfl) rfl) _ _ (by unfold maxLen; omega) (by omega) _ hseq
  refine ((callsIn_wide (n := 5)).1 cS).mono ?_
  rintro e w' ⟨v, ss, rfl, hS, hrow, _, hbw⟩
  have hp := names_perm hsrt hown hsays
  have hl : ss.length = (namesM M).length := by
    have := (hS.trans hp.symm).length_eq
    unfold namesM
    rw [this, List.length_map, List.length_map]
  refine ⟨v, rfl, ?_, below_step hb hbw⟩
  have e1 : (ss.mergeSort fun x y => decide (x ≤ y)).map encStr = encs Value.string (namesM M) := by
    have := sort_names hsrt (hS.trans hp.symm)
    have e2 : (ss.mergeSort fun x y => decide (x ≤ y)) = ss.mergeSort leB := rfl
    rw [e2, this]
    unfold encs namesM
    rw [List.map_map, List.map_map]
    refine List.map_congr_left (fun f _ => ?_)
    show encStr f.f0.data.toList = Value.string f.f0
    unfold encStr
    congr 1
  rw [e1, hl, World.size_alloc] at hrow
  exact Kd.R_of_own hrow (fun _ _ => trivial)
end Go.Proofs.Ythcjoiflkhbpfaa.Dk
end
section
set_option linter.unusedVariables false
set_option maxRecDepth 100000
set_option linter.unusedSimpArgs false
namespace Go.Proofs.Ythcjoiflkhbpfaa.Dk
open Go.RowKit Go.Maps Go.WideMaps Go.Sort Go.Shelf Go.Proofs.YthcjoiflkhbpfaaW.PrintWords Go.Proofs.YthcjoiflkhbpfaaW.PrintLast Go.Proofs.YthcjoiflkhbpfaaW.PrintMore Go.Proofs.Ythcjoiflkhbpfaa.Mv
variable {w w' : World} {d b n : Nat} {M : DM}
theorem name_at (M : DM) {i : Nat} (hi : i < M.fs.length) : rdOf (⟨#[]⟩ : ByteArray) (namesM M) (i : Int) = M.fs[i].f0 := by
  unfold rdOf namesM
  simp [List.getD, List.getElem?_eq_getElem hi]
set_option maxHeartbeats 8000000 in
theorem disk_crash (h : DiskC w d b n M) (hn : n ≤ 1000000) (l : List Int) (A : Option Addr) (c : Nat) (hC : (Kd.int .i64).C w A l.length l) : Calls Try.prog 15 #[.pointer (some ⟨d, 0, none⟩), .slice A l.length c] w fun e w' => ∃ d' b', e = .returned (.pointer (some ⟨d', 0, none⟩)) ∧ DiskC w' d' b' n (crashM M l) ∧ w.heap.size ≤ d' ∧ w.heap.size ≤ b' ∧ Below w.heap.size w w' := by
  have HH := Aside0.mk h
  have HC := Aside0.mk hC
  have hlen : (namesM M).length = M.fs.length := List.length_map _
  have HLE := Aside0.mk h.le
  have hmn : ∀ ats ty x y W, (Builtin.min_ ats ty #[.int .i64 x, .int .i64 y]).run Try.prog W = .ok (.int .i64 (mnI x y)) W := fun ats ty x y W => run_min ats ty x y W
  have hmx : ∀ ats ty x y W, (Builtin.max_ ats ty #[.int .i64 x, .int .i64 y]).run Try.prog W = .ok (.int .i64 (mxI x y)) W := fun ats ty x y W => run_max ats ty x y W
  have HLN := Aside0.mk hlen
  clear h hC hlen
  go_enter Try.func15, Try.ntmps15
  go_wp2_with (first
    | (go_at_call 11; refine (disk_new _ _).mono ?_; rintro e w1 ⟨rfl, hd, hb⟩
       have hd1 := HH.out.below hb
       have q0 := hd1.c0
       have q1 := hd1.c1
       have p0 := hd.c0
       have pz := hd.fz 0
       have hset := heap_setCell_at w1 (w.heap.size + 1) 0 _ _ _ (.int .i64 M.size) hd.head
       have hds : d ≠ w.heap.size + 1 := by have := HH.out.lt; omega
       have hbs : b ≠ w.heap.size + 1 := by have := HH.out.mlt; omega
       have hd2 : DiskC (w1.setCell ⟨w.heap.size + 1, 0, none⟩ (.int .i64 M.size)) d b n M := hd1.same (Below.heap_setCell w1 _ _ d hds) (Below.heap_setCell w1 _ _ b hbs)
       have q1 := hd2.c1
       have HD2 := Aside0.mk hd2
       have hsc := sorted_call hd2 hn
       rw [size_setCell] at hsc
       have HSC := Aside0.mk hsc
       have HS1 : Aside0 (w.heap.size + 1 < w1.heap.size) := ⟨hd.lt⟩
       have HO2 : Aside0 (DiskC (w1.setCell ⟨w.heap.size + 1, 0, none⟩ (.int .i64 M.size)) (w.heap.size + 1) w.heap.size 0 (crashTo M l 0)) := ⟨⟨by rw [hset]; rfl, hd.map.same (Below.heap_setCell w1 _ _ w.heap.size (by show w.heap.size ≠ w.heap.size + 1; omega)), ok_crashTo HH.out.ok l 0⟩⟩
       have HB2 : Aside0 (Below w.heap.size w (w1.setCell ⟨w.heap.size + 1, 0, none⟩ (.int .i64 M.size))) := ⟨hb.setCell (p := ⟨w.heap.size + 1, 0, none⟩) (Nat.le_succ _) _⟩
       clear hd hb hd1 hset hds hbs hd2 hsc)
    | (go_at_call 30; refine (keys_call _ _).mono ?_; rintro e w2 ⟨rfl, e2⟩; subst e2)
    | (go_at_call 29; refine HSC.out.mono ?_; rintro e w3 ⟨v, rfl, hr, hb⟩
       obtain ⟨A3, c3, e3⟩ := Kd.R_slice hr
       rw [HLN.out] at e3
       subst e3
       have hr3 : Kd.R Kd.string 9 w3 0 (fun k => w.heap.size + 1 < k) (.slice A3 M.fs.length c3) (namesM M) := Kd.R_lower (Kd.R_mono (Kd.R_bound hr) (fun k hk => by have := hk.2.1; have := HS1.out; omega)) (Nat.zero_le _)
       rw [← size_setCell w1 ⟨w.heap.size + 1, 0, none⟩ (.int .i64 M.size)] at hb
       have HR3 := Aside0.mk hr3
       have HO3 := Aside0.mk (HO2.out.below hb)
       have HB3 := Aside0.mk (below_step HB2.out hb)
       clear hr hb hr3))
  have HDN : Aside0 (DiskC w d b n M ∧ Below w.heap.size w w3) := ⟨⟨HH.out, HB3.out⟩⟩
  have HSS : Aside0 (w.heap.size + 1 < w3.heap.size) := ⟨HO3.out.lt⟩
  clear q0 q1 p0 pz HD2 HSC HO2 HB2
  generalize hDD : w.heap.size + 1 = dd at *
  generalize hBB : w.heap.size = bb at *
  have HDD : Aside0 (bb ≤ dd ∧ w.heap.size = bb) := ⟨by omega, hBB⟩
  clear hDD hBB
  go_loopg [28] (M.fs.length + 1) (fun kq v28 wq => ∃ i : Nat, v28 = .int .i64 (i : Int) ∧ i ≤ M.fs.length ∧ M.fs.length - i < kq ∧ Aside0 (DiskC wq dd bb i (crashTo M l i)) ∧ Aside0 (Below bb w wq) ∧ Aside0 (Kd.R Kd.string 9 wq 0 (fun k => dd < k) (.slice A3 M.fs.length c3) (namesM M)))
  case atStart => exact ⟨0, rfl, Nat.zero_le _, by omega, HO3, HB3, HR3⟩
  case round =>
    clear HO3 HB3 HR3
    obtain ⟨i, rfl, hi, hk, HO, HB, HR⟩ := hrel
    have z0 : (0 : Int) ≤ (i : Int) := by omega
    have hle := HLE.out
    by_cases hlt : i < M.fs.length
    · have z1 : (i : Int) < (M.fs.length : Int) := by omega
      have hdn : DiskC wr d b n M := HDN.out.1.below (by have := HB.out; rw [← HDD.out.2] at this; exact this)
      obtain ⟨A9, c9, e9, hc9, hC9⟩ := Kd.R_reads HR.out
      injection e9 with e9 e9b e9c
      clear e9b
      subst e9 e9c
      obtain ⟨ad, eA, f0⟩ := Kd.at_string hC9 (i : Int) z0 (by rw [HLN.out]; exact z1)
      clear hC9 hc9
      rw [show rdOf ByteArray.empty (namesM M) (i : Int) = M.fs[i].f0 from name_at M hlt] at f0
      rw [Int.toNat_natCast] at f0
      subst eA
      have hmem : M.fs[i] ∈ M.fs := List.getElem_mem hlt
      have hsf := hdn.ok.safe _ hmem
      have HSF := Aside0.mk hsf
      have hfl := file_le hdn.ok hmem
      have hnm := hdn.ok.name _ hmem
      have l1 := look_run hdn (x := M.fs[i].f0) (by unfold maxLen; omega)
      rw [find_of hdn.ok.srt hmem, lkF_some] at l1
      have c1 := hdn.c1
      have c1o := HO.out.c1
      have HST : Aside0 ({ crashTo M l i with fs := putF (crashTo M l i).fs ⟨M.fs[i].f0, M.fs[i].f1.extract 0 (keepF l i M.fs[i]).toNat, keepF l i M.fs[i]⟩ } = crashTo M l (i + 1)) := ⟨crash_step hdn.ok l hlt⟩
      have hkl := keep_le l i hsf
      have hke : keepF l i M.fs[i] = if i < l.length then M.fs[i].f2 + mnI (mxI (l.getD i 0) 0) ((M.fs[i].f1.size : Int) - M.fs[i].f2) else M.fs[i].f2 := by
        unfold keepF
        rw [mnI_eq, mxI_eq]
      have HOK : Aside0 (OkM (crashTo M l (i + 1))) := ⟨ok_crashTo hdn.ok l (i + 1)⟩
      generalize keepF l i M.fs[i] = kk at *
      generalize M.fs[i] = f at *
      obtain ⟨d0, d1⟩ := two_new wr 66 (.string f.f1) (.int .i64 f.f2)
      have hbW : Below wr.heap.size wr (wr.alloc (.cells #[.string f.f1, .int .i64 f.f2] 66)) := below_alloc (Below.refl _ _) _
      have f0' := up hbW f0
      have c1' := up hbW c1
      have c1o' := up hbW c1o
      have HBW := Aside0.mk hbW
      have k0 : 0 ≤ kk := hkl.1
      have k1 : kk ≤ (f.f1.size : Int) := hkl.2
      have hsf0 := hsf.1
      have hsf1 := hsf.2
      clear hdn hmem hsf hkl HSF
      by_cases hkc : i < l.length
      · rw [if_pos hkc] at hke
        have y1 : (i : Int) < (l.length : Int) := by omega
        obtain ⟨adK, eK, g0⟩ := Kd.at_int (Kd.C_below HC.out (by have := HB.out; rw [← HDD.out.2] at this; exact this)) (i : Int) z0 y1
        subst eK
        have g0' := up hbW g0
        rw [Int.toNat_natCast] at g0'
        rw [show YthcjoiflkhbpfaaW.PrintWords.rd l (i : Int) = l.getD i 0 from rfl] at g0'
        generalize l.getD i 0 = a at *
        have e0 : IntKind.i64.wrap ((f.f1.size : Int) - f.f2) = (f.f1.size : Int) - f.f2 := by rw [IntKind.wrap_i64]; omega
        have e1 : IntKind.i64.wrap (f.f2 + mnI (mxI a 0) ((f.f1.size : Int) - f.f2)) = kk := by rw [← hke, IntKind.wrap_i64]; omega
        have e2 : wrap64 (f.f2 + mnI (mxI a 0) ((f.f1.size : Int) - f.f2)) = kk := by rw [← hke]; exact w64 (by omega) (by omega)
        clear hke g0
        go_wp2
        go_quiet (fail)
        have hbq : Below wr.heap.size wr ((wr.alloc (.cells #[.string f.f1, .int .i64 f.f2] 66)).drewN (nq + 1)) := pw_below_drewN HBW.out (nq + 1)
        have hoo := HO.out.below hbq
        obtain ⟨w9, u1, u2, u3⟩ := put_facts hoo (by unfold maxLen; omega) ⟨f.f0, f.f1.extract 0 kk.toNat, kk⟩ (by show f.f0.size ≤ _; unfold maxLen; omega) (by rw [HST.out]; exact HOK.out)
        rw [HST.out] at u2
        have HO9 := Aside0.mk u2
        have HB9 : Aside0 (Below bb w w9) := ⟨(HB.out.trans (hbq.mono (by have := HB.out.size; rw [HDD.out.2] at this; exact this))).trans (u3.isBelow (fun k hk e => e.elim (fun e => by have := HDD.out; omega) (fun e => by omega)) (by have := HB.out.size; have h2 := hbq.size; rw [HDD.out.2] at this; omega))⟩
        have HR9 : Aside0 (Kd.R Kd.string 9 w9 0 (fun k => dd < k) (.slice (some ad) M.fs.length c3) (namesM M)) := ⟨Kd.R_step (Kd.R_below HR.out hbq) (fun k hk hl => u3.block k hl (fun e => e.elim (fun e => by omega) (fun e => by have := HDD.out; omega)))⟩
        clear hbq hoo u2 u3
        go_wp2
        go_region
        all_goals
          go_wp2
          go_roundg (gk - 1)
          case measure => omega
          case rel => exact ⟨i + 1, by go_num, by omega, by omega, HO9, HB9, HR9⟩
      · rw [if_neg hkc] at hke
        have y1 : ¬ (i : Int) < (l.length : Int) := by omega
        subst hke
        have hbq : Below wr.heap.size wr ((wr.alloc (.cells #[.string f.f1, .int .i64 f.f2] 66)).drew) := HBW.out.drew
        have hoo := HO.out.below hbq
        obtain ⟨w9, u1, u2, u3⟩ := put_facts hoo (by unfold maxLen; omega) ⟨f.f0, f.f1.extract 0 f.f2.toNat, f.f2⟩ (by show f.f0.size ≤ _; unfold maxLen; omega) (by rw [HST.out]; exact HOK.out)
        rw [HST.out] at u2
        have HO9 := Aside0.mk u2
        have HB9 : Aside0 (Below bb w w9) := ⟨(HB.out.trans (hbq.mono (by have := HB.out.size; rw [HDD.out.2] at this; exact this))).trans (u3.isBelow (fun k hk e => e.elim (fun e => by have := HDD.out; omega) (fun e => by omega)) (by have := HB.out.size; have h2 := hbq.size; rw [HDD.out.2] at this; omega))⟩
        have HR9 : Aside0 (Kd.R Kd.string 9 w9 0 (fun k => dd < k) (.slice (some ad) M.fs.length c3) (namesM M)) := ⟨Kd.R_step (Kd.R_below HR.out hbq) (fun k hk hl => u3.block k hl (fun e => e.elim (fun e => by omega) (fun e => by have := HDD.out; omega)))⟩
        clear hbq hoo u2 u3
        go_wp2
        go_region
        all_goals
          go_wp2
          go_roundg (gk - 1)
          case measure => omega
          case rel => exact ⟨i + 1, by go_num, by omega, by omega, HO9, HB9, HR9⟩
    · have hiz : i = M.fs.length := by omega
      subst hiz
      rw [crash_all] at HO
      clear hlt
      go_wp2
      go_ret
      exact ⟨dd, bb, rfl, HO.out.mono hle, by have := HDD.out; omega, by have := HDD.out; omega, by have := HB.out; rw [← HDD.out.2] at this; exact this⟩
end Go.Proofs.Ythcjoiflkhbpfaa.Dk
end
section
set_option linter.unusedVariables false
set_option maxRecDepth 100000
set_option linter.unusedSimpArgs false
namespace Go.Proofs.Ythcjoiflkhbpfaa.Dk
open Go.RowKit Go.Maps Go.WideMaps Go.Sort Go.Shelf Go.Proofs.YthcjoiflkhbpfaaW.PrintWords Go.Proofs.YthcjoiflkhbpfaaW.PrintLast Go.Proofs.YthcjoiflkhbpfaaW.PrintMore Go.Proofs.Ythcjoiflkhbpfaa.Mv
variable {w w' : World} {d b n : Nat} {M : DM}
theorem one_i (w : World) (x : Int) : (Kd.int .i64).C (w.alloc (.cells #[.int .i64 x] 3)) (some ⟨w.heap.size, 0, none⟩) 1 [x] := by
  refine ⟨rfl, by decide, fun _ => ⟨_, rfl, fun j p hj => ?_⟩⟩
  have hh := heap_alloc_new w (.cells #[.int .i64 x] 3)
  have hj0 : j = 0 := by
    have := (List.getElem?_eq_some_iff.1 hj).1
    simp at this
    exact this
  subst hj0
  cases hj
  refine ⟨[.int .i64 x], rfl, rfl, fun i u hu => ?_⟩
  have hi0 : i = 0 := by
    have := (List.getElem?_eq_some_iff.1 hu).1
    simp at this
    exact this
  subst hi0
  cases hu
  exact (cell_of_row _ _ _ _ _ _ hh).trans rfl
theorem two_fresh {w : World} {d b k : Nat} (h1 : w.heap.size ≤ d) (h2 : w.heap.size ≤ b) : ∀ k, k < w.heap.size → ¬ two d b k := fun k hk e => e.elim (fun e => by omega) (fun e => by omega)
/-- a world in which nothing has changed since w but the disk's blocks, that are new -/
theorem fr_below {w W W' : World} {d b : Nat} (hB : Below w.heap.size w W) (h1 : w.heap.size ≤ d) (h2 : w.heap.size ≤ b) (h : Fr (two d b) W W') : Below w.heap.size w W' :=
  hB.trans (h.isBelow (two_fresh (k := 0) h1 h2) hB.size)
def hD0 : DM := newM 100
def hD1 : DM := ⟨[⟨⟨#[102]⟩, ⟨#[97, 98]⟩, 0⟩], 100, false, -1⟩
def hD2 : DM := ⟨[⟨⟨#[102]⟩, ⟨#[97, 98]⟩, 2⟩], 100, false, -1⟩
def hD3 : DM := ⟨[⟨⟨#[102]⟩, ⟨#[97, 98, 99, 100]⟩, 2⟩], 100, false, -1⟩
theorem hd1 : act (fun M => appendG M ⟨#[102]⟩ ⟨#[97, 98]⟩) hD0 = (0, hD1) := by kernel_rfl
theorem hd2 : act (fun M => syncG M ⟨#[102]⟩) hD1 = (0, hD2) := by kernel_rfl
theorem hd3 : act (fun M => appendG M ⟨#[102]⟩ ⟨#[99, 100]⟩) hD2 = (0, hD3) := by kernel_rfl
theorem hd4 : readV (crashM hD3 [1]) ⟨#[102]⟩ = ⟨#[97, 98, 99]⟩ ∧ readE (crashM hD3 [1]) ⟨#[102]⟩ = 0 := ⟨by kernel_rfl, by kernel_rfl⟩
set_option maxHeartbeats 4000000 in
theorem head_any (w : World) : Calls Try.prog 10 #[] w fun e w' => e = .returned (.bool true) ∧ Below w.heap.size w w' := by
  go_enter Try.func10, Try.ntmps10
  go_wp2_with (first
    | (go_at_call 11; refine (disk_new _ _).mono ?_; rintro e w1 ⟨rfl, hd, hb⟩; have HD1 := Aside0.mk (show DiskC w1 (w.heap.size + 1) w.heap.size 0 hD0 from hd); have HB1 := Aside0.mk hb; clear hd hb
       have hap := disk_append HD1.out (by decide) ⟨#[102]⟩ ⟨#[97, 98]⟩ (by decide)
       rw [hd1] at hap
       have HAP := Aside0.mk hap
       clear hap)
    | (go_at_call 13; refine HAP.out.mono ?_; rintro e w2 ⟨rfl, hd, hf⟩
       have HD2 := Aside0.mk hd
       have HB2 := Aside0.mk (fr_below HB1.out (Nat.le_succ _) (Nat.le_refl _) hf)
       have hsy := disk_sync hd (by decide) ⟨#[102]⟩ (by decide)
       rw [hd2] at hsy
       have HSY := Aside0.mk hsy
       clear hd hf hsy HAP)
    | (go_at_call 19; refine HSY.out.mono ?_; rintro e w3 ⟨rfl, hd, hf⟩
       have HD3 := Aside0.mk hd
       have HB3 := Aside0.mk (fr_below HB2.out (Nat.le_succ _) (Nat.le_refl _) hf)
       have hap := disk_append hd (by decide) ⟨#[102]⟩ ⟨#[99, 100]⟩ (by decide)
       rw [hd3] at hap
       have HAQ := Aside0.mk hap
       clear hd hf hap)
    | (go_at_call 13; refine HAQ.out.mono ?_; rintro e w4 ⟨rfl, hd, hf⟩
       have hb4 := fr_below HB3.out (Nat.le_succ _) (Nat.le_refl _) hf
       have hba : Below w4.heap.size w4 (w4.alloc (.cells #[.int .i64 1] 3)) := below_alloc (Below.refl _ _) _
       have HB4 := Aside0.mk (below_step hb4 hba)
       have HCR := Aside0.mk (disk_crash (hd.below hba) (by decide) [1] (some ⟨w4.heap.size, 0, none⟩) 1 (one_i w4 1))
       clear hd hf hb4 hba)
    | (go_at_call 15; refine HCR.out.mono ?_; rintro e w5 ⟨d', b', rfl, hd, _, _, hb⟩
       have hrd := disk_read hd (x := ⟨#[102]⟩) (by decide)
       rw [hd4.1, hd4.2] at hrd
       have HRD := Aside0.mk hrd
       have HB5 := Aside0.mk (below_step HB4.out hb)
       clear hd hb hrd)
    | (go_at_call 16; refine HRD.out.mono ?_; rintro e w6 ⟨rfl, hb⟩; have HB6 := Aside0.mk (below_step HB5.out hb); clear hb))
  go_ret
  exact ⟨rfl, HB6.out⟩
end Go.Proofs.Ythcjoiflkhbpfaa.Dk
end
section
set_option linter.unusedVariables false
set_option maxRecDepth 100000
set_option linter.unusedSimpArgs false
namespace Go.Proofs.Ythcjoiflkhbpfaa.Dk
open Go.RowKit Go.Maps Go.WideMaps Go.Sort Go.Shelf Go.Proofs.YthcjoiflkhbpfaaW.PrintWords Go.Proofs.YthcjoiflkhbpfaaW.PrintLast Go.Proofs.YthcjoiflkhbpfaaW.PrintMore Go.Proofs.Ythcjoiflkhbpfaa.Mv
/-- the low bits of a number, at 64 bits -/
theorem low_bits (n m : Int) (k : Nat) (hm : (BitVec.ofInt 64 m).toNat = 2 ^ k - 1) : bits .and .i64 n m = IntKind.i64.wrap (((n % 18446744073709551616).toNat % 2 ^ k : Nat) : Int) := by
  have h : (BitVec.ofInt 64 n &&& BitVec.ofInt 64 m).toNat = (n % 18446744073709551616).toNat % 2 ^ k := by
    rw [BitVec.toNat_and, hm, Nat.and_two_pow_sub_one_eq_mod, BitVec.toNat_ofInt]
    rfl
  rw [← h]
  rfl
theorem and_31 (n : Int) : bits .and .i64 n 31 = n % 32 := by
  rw [low_bits n 31 5 (by decide), IntKind.wrap_i64]
  omega
theorem put_one (x a a' : ByteArray) (s s' : Int) : putF [⟨x, a, s⟩] ⟨x, a', s'⟩ = [⟨x, a', s'⟩] := by
  unfold putF
  have e1 : lo [(⟨x, a, s⟩ : Fi)] x = [] := List.filter_eq_nil_iff.2 (fun f hf => by rw [List.mem_singleton] at hf; subst hf; simpa using nl_irrefl x)
  have e2 : hi [(⟨x, a, s⟩ : Fi)] x = [] := List.filter_eq_nil_iff.2 (fun f hf => by rw [List.mem_singleton] at hf; subst hf; simpa using nl_irrefl x)
  rw [e1, e2]
  rfl
theorem find_one (x a : ByteArray) (s : Int) : findF [⟨x, a, s⟩] x = some ⟨x, a, s⟩ := by
  unfold findF
  rw [List.find?_cons_of_pos (by simp)]
def xsB (k : Nat) : ByteArray := ⟨Array.replicate k 120⟩
theorem xsB_size (k : Nat) : (xsB k).size = k := Array.size_replicate
theorem xsB_succ (k : Nat) : xsB k ++ ⟨#[120]⟩ = xsB (k + 1) := by
  refine bytes_ext ?_
  rw [ByteArray.data_append]
  unfold xsB
  simp [List.replicate_succ']
def fFs (k : Nat) : List Fi := if k = 0 then [] else [⟨⟨#[102]⟩, xsB k, 0⟩]
theorem fFs_cur (k : Nat) : curF (fFs k) ⟨#[102]⟩ = ⟨⟨#[102]⟩, xsB k, 0⟩ := by
  unfold fFs
  by_cases h : k = 0
  · subst h
    rw [if_pos rfl]
    rfl
  · rw [if_neg h]
    unfold curF
    rw [find_one]
    rfl
theorem fFs_put (k : Nat) (a : ByteArray) : putF (fFs k) ⟨⟨#[102]⟩, a, 0⟩ = [⟨⟨#[102]⟩, a, 0⟩] := by
  unfold fFs
  by_cases h : k = 0
  · rw [if_pos h]
    rfl
  · rw [if_neg h]
    exact put_one _ _ _ _ _
theorem fFs_sum (k : Nat) : sumD (fFs k) = k := by
  unfold fFs
  by_cases h : k = 0
  · subst h
    rfl
  · rw [if_neg h, sumD_cons]
    show (((xsB k).size : Nat) : Int) + 0 = _
    rw [xsB_size]
    omega
/-- behind i turns, the power failing at turn n -/
def fM (n i : Nat) : DM := ⟨fFs (min i n), 1000, decide (n < i), (n : Int) - ((min i n : Nat) : Int)⟩
theorem fM_zero (n : Nat) : fallM (newM 1000) n = fM n 0 := by
  unfold fallM fM newM
  rw [Nat.zero_min, decide_eq_false (by omega)]
  have e : max (n : Int) 0 = (n : Int) - ((0 : Nat) : Int) := by omega
  rw [e]
  rfl
theorem fM_step (n i : Nat) (hn : n ≤ 31) (hi : i ≤ 31) : act (fun M => appendG M ⟨#[102]⟩ ⟨#[120]⟩) (fM n i) = (if n ≤ i then 8 else 0, fM n (i + 1)) := by
  by_cases h : n ≤ i
  · rw [if_pos h]
    have hm : min i n = n := by omega
    have hm' : min (i + 1) n = n := by omega
    have ho : out (fM n i) = true := by
      unfold out fM
      rw [hm]
      rcases Nat.lt_or_ge n i with h1 | h1
      · rw [decide_eq_true h1]; rfl
      · simp
    rw [act_out ho]
    congr 1
    unfold gone fM
    rw [hm, hm', decide_eq_true (show n < i + 1 by omega)]
  · rw [if_neg h]
    have hm : min i n = i := by omega
    have hm' : min (i + 1) n = i + 1 := by omega
    have hf : 0 < ((n : Int) - ((i : Nat) : Int)) := by omega
    have hfm : fM n i = ⟨fFs i, 1000, false, (n : Int) - (i : Int)⟩ := by
      unfold fM
      rw [hm, decide_eq_false (show ¬ n < i by omega)]
    have ho : ¬ out (fM n i) = true := by
      rw [hfm]
      unfold out
      simp
      omega
    rw [act_in ho, hfm]
    have hw : went ⟨fFs i, 1000, false, (n : Int) - (i : Int)⟩ = ⟨fFs i, 1000, false, (n : Int) - (i : Int) - 1⟩ := by
      unfold went
      rw [if_pos hf]
    rw [hw]
    unfold appendG
    have hr : roomM (⟨fFs i, 1000, false, (n : Int) - (i : Int) - 1⟩ : DM) = 1000 - (i : Int) := by
      unfold roomM
      rw [fFs_sum]
    rw [if_neg (by decide), if_neg (by rw [hr]; show ¬ (1000 - (i : Int)) < 1; omega)]
    congr 1
    unfold fM
    rw [hm', decide_eq_false (show ¬ n < i + 1 by omega)]
    have e1 : putF (fFs i) ⟨⟨#[102]⟩, (curF (fFs i) ⟨#[102]⟩).f1 ++ ⟨#[120]⟩, (curF (fFs i) ⟨#[102]⟩).f2⟩ = fFs (i + 1) := by
      rw [fFs_cur]
      rw [show (⟨⟨#[102]⟩, xsB i, 0⟩ : Fi).f1 = xsB i from rfl, show (⟨⟨#[102]⟩, xsB i, 0⟩ : Fi).f2 = 0 from rfl, xsB_succ, fFs_put]
      unfold fFs
      rw [if_neg (by omega)]
    have e2 : (n : Int) - (i : Int) - 1 = (n : Int) - ((i + 1 : Nat) : Int) := by omega
    rw [e2]
    show (⟨putF (fFs i) ⟨⟨#[102]⟩, (curF (fFs i) ⟨#[102]⟩).f1 ++ ⟨#[120]⟩, (curF (fFs i) ⟨#[102]⟩).f2⟩, 1000, false, _⟩ : DM) = _
    rw [e1]
theorem fM_read0 (n m : Nat) (l : List Int) (h : min m n = 0) : readE (crashM (fM n m) l) ⟨#[102]⟩ = 5 := by
  unfold fM
  rw [h]
  rfl
theorem fM_crash (n m : Nat) (l : List Int) (h : min m n ≠ 0) : crashM (fM n m) l = ⟨[crashF l 0 ⟨⟨#[102]⟩, xsB (min m n), 0⟩], 1000, false, -1⟩ := by
  unfold fM fFs
  rw [if_neg h]
  rfl
theorem fM_read1 (n m : Nat) (l : List Int) (h : min m n ≠ 0) : readE (crashM (fM n m) l) ⟨#[102]⟩ = 0 ∧ readV (crashM (fM n m) l) ⟨#[102]⟩ = (crashF l 0 ⟨⟨#[102]⟩, xsB (min m n), 0⟩).f1 := by
  rw [fM_crash n m l h]
  have hf : findF [crashF l 0 ⟨⟨#[102]⟩, xsB (min m n), 0⟩] ⟨#[102]⟩ = some (crashF l 0 ⟨⟨#[102]⟩, xsB (min m n), 0⟩) := find_one _ _ _
  constructor
  · unfold readE
    show (if false = true then _ else if (findF [crashF l 0 ⟨⟨#[102]⟩, xsB (min m n), 0⟩] ⟨#[102]⟩).isSome then (0 : Int) else 5) = 0
    rw [hf]
    rfl
  · unfold readV
    show (if false = true then _ else (lkF (findF [crashF l 0 ⟨⟨#[102]⟩, xsB (min m n), 0⟩] ⟨#[102]⟩)).1) = _
    rw [hf]
    rfl
theorem fM_all (k : Nat) (h : k ≤ 31) : (crashF [1000] 0 ⟨⟨#[102]⟩, xsB k, 0⟩).f1 = xsB k := by
  have e : keepF [1000] 0 ⟨⟨#[102]⟩, xsB k, 0⟩ = (k : Int) := by
    unfold keepF
    rw [if_pos (by decide)]
    show (0 : Int) + min (max 1000 0) (((xsB k).size : Int) - 0) = k
    rw [xsB_size]
    omega
  show (xsB k).extract 0 (keepF [1000] 0 ⟨⟨#[102]⟩, xsB k, 0⟩).toNat = _
  rw [e, Int.toNat_natCast]
  have := xsB_size k
  refine bytes_ext ?_
  rw [ByteArray.data_extract]
  have h2 : (xsB k).data.size = k := this
  have h3 : (xsB k).data.extract 0 k = (xsB k).data := by
    apply Array.ext
    · rw [Array.size_extract]; omega
    · intro i h1 h2
      rw [Array.getElem_extract]
      congr 1
      omega
  rw [h3]
theorem fM_none (k : Nat) : (crashF [] 0 ⟨⟨#[102]⟩, xsB k, 0⟩).f1 = ⟨#[]⟩ := by
  have e : keepF [] 0 ⟨⟨#[102]⟩, xsB k, 0⟩ = 0 := by
    unfold keepF
    rw [if_neg (by decide)]
  show (xsB k).extract 0 (keepF [] 0 ⟨⟨#[102]⟩, xsB k, 0⟩).toNat = _
  rw [e]
  refine bytes_ext ?_
  rw [ByteArray.data_extract]
  simp
end Go.Proofs.Ythcjoiflkhbpfaa.Dk
end
section
set_option linter.unusedVariables false
set_option maxRecDepth 100000
set_option linter.unusedSimpArgs false
namespace Go.Proofs.Ythcjoiflkhbpfaa.Dk
open Go.RowKit Go.Maps Go.WideMaps Go.Sort Go.Shelf Go.Proofs.YthcjoiflkhbpfaaW.PrintWords Go.Proofs.YthcjoiflkhbpfaaW.PrintLast Go.Proofs.YthcjoiflkhbpfaaW.PrintMore Go.Proofs.Ythcjoiflkhbpfaa.Mv
set_option maxHeartbeats 8000000 in
theorem falls_in (a0 a1 : Int) (w : World) : Calls Try.prog 3 #[.int .i64 a0, .int .i64 a1] w fun e w' => e = .returned (.bool true) ∧ Below w.heap.size w w' := by
  have h0 : bits .and .i64 a0 31 = a0 % 32 := and_31 a0
  have h1 : bits .and .i64 a1 31 = a1 % 32 := and_31 a1
  obtain ⟨n, hn⟩ : ∃ n : Nat, a0 % 32 = (n : Int) := ⟨(a0 % 32).toNat, by omega⟩
  obtain ⟨m, hm⟩ : ∃ m : Nat, a1 % 32 = (m : Int) := ⟨(a1 % 32).toNat, by omega⟩
  have hn1 : n ≤ 31 := by omega
  have hm1 : m ≤ 31 := by omega
  rw [hn] at h0
  rw [hm] at h1
  clear hn hm
  have hmn : ∀ ats ty x y W, (Builtin.min_ ats ty #[.int .i64 x, .int .i64 y]).run Try.prog W = .ok (.int .i64 (mnI x y)) W := fun ats ty x y W => run_min ats ty x y W
  go_enter Try.func3, Try.ntmps3
  go_wp2_with (first
    | (go_at_call 10; refine (head_any _).mono ?_; rintro e w1 ⟨rfl, hb⟩; have HB1 := Aside0.mk hb; clear hb)
    | (go_at_call 11; refine (disk_new _ _).mono ?_; rintro e w2 ⟨rfl, hd, hb⟩; have HD2 := Aside0.mk hd; have HB2 := Aside0.mk hb; clear hd hb)
    | (go_at_call 12; refine (disk_fall HD2.out (by omega)).mono ?_; rintro e w3 ⟨rfl, hd, hf⟩; rw [fM_zero] at hd; have HD3 := Aside0.mk hd; have HB3 := Aside0.mk (below_step HB1.out (fr_below HB2.out (Nat.le_succ _) (Nat.le_refl _) hf)); have HSZ : Aside0 (w.heap.size ≤ w1.heap.size) := ⟨HB1.out.size⟩; clear hd hf HD2 HB2 HB1))
  generalize w1.heap.size = bb at *
  go_loopg [6] (m + 1) (fun kq v6 wq => ∃ i : Nat, v6 = .int .i64 (i : Int) ∧ i ≤ m ∧ m - i < kq ∧ Aside0 (DiskC wq (bb + 1) bb i (fM n i)) ∧ Aside0 (Below w.heap.size w wq))
  case atStart => exact ⟨0, rfl, Nat.zero_le _, by omega, HD3, HB3⟩
  case round =>
    clear HD3 HB3
    obtain ⟨i, rfl, hi, hk, HD, HB⟩ := hrel
    have hsz := HSZ.out
    have hsz' : w.heap.size ≤ bb + 1 := by omega
    by_cases hlt : i < m
    · have z1 : (i : Int) < (m : Int) := by omega
      have hap := disk_append HD.out (by omega) ⟨#[102]⟩ ⟨#[120]⟩ (by decide)
      rw [fM_step n i hn1 (by omega)] at hap
      have HAP := Aside0.mk hap
      clear hap
      by_cases hni : n ≤ i
      case' pos =>
        rw [if_pos hni] at HAP
        have q1 : (n : Int) ≤ (i : Int) := by omega
        have q2 : decide ((n : Int) ≤ (i : Int)) = true := decide_eq_true q1
        have HDW : Aside0 ((fM n (i + 1)).down = true) := ⟨decide_eq_true (by omega)⟩
      case' neg =>
        rw [if_neg hni] at HAP
        have q1 : ¬ (n : Int) ≤ (i : Int) := by omega
        have q2 : decide ((n : Int) ≤ (i : Int)) = false := decide_eq_false q1
        have HDW : Aside0 ((fM n (i + 1)).down = false) := ⟨decide_eq_false (by omega)⟩
      all_goals
        go_wp2_with (first
          | (go_at_call 13; refine HAP.out.mono ?_; rintro e w5 ⟨rfl, hd, hf⟩
             have HD5 := Aside0.mk hd
             have HB5 := Aside0.mk (fr_below HB.out hsz' hsz hf)
             have hdn := disk_down hd
             rw [HDW.out] at hdn
             have HDN := Aside0.mk hdn
             clear hd hf hdn)
          | (go_at_call 14; refine HDN.out.mono ?_; rintro e w6 ⟨rfl, rfl⟩))
        go_roundg (gk - 1)
        case measure => omega
        case rel => exact ⟨i + 1, by go_num, by omega, by omega, HD5, HB5⟩
    · have hiz : i = m := by omega
      subst hiz
      obtain ⟨k, hk0⟩ : ∃ k, k = min i n := ⟨_, rfl⟩
      have e1 : mnI (n : Int) (i : Int) = (k : Int) := by rw [mnI_eq]; omega
      have hk31 : k ≤ 31 := by omega
      have hba : Below wr.heap.size wr (wr.alloc (.cells #[.int .i64 1000] 3)) := below_alloc (Below.refl _ _) _
      have HBA := Aside0.mk hba
      have HCR := Aside0.mk (disk_crash (HD.out.below hba) (by omega) [1000] (some ⟨wr.heap.size, 0, none⟩) 1 (one_i wr 1000))
      have HBR := Aside0.mk (below_step HB.out hba)
      clear hi hk hlt hba
      by_cases hz : k = 0
      · have e2 : ((k : Int) == 0) = true := by rw [hz]; rfl
        have HRE : Aside0 (readE (crashM (fM n i) [1000]) ⟨#[102]⟩ = 5) := ⟨fM_read0 n i _ (by omega)⟩
        clear hk0 hz
        go_wp2_with (first
          | (go_at_call 15; refine HCR.out.mono ?_; rintro e w5 ⟨d', b', rfl, hd, _, _, hb⟩
             have hrd := disk_read hd (x := ⟨#[102]⟩) (by decide)
             rw [HRE.out] at hrd
             have HRD := Aside0.mk hrd
             have HB5 := Aside0.mk (below_step HBR.out hb)
             clear hd hb hrd)
          | (go_at_call 16; refine HRD.out.mono ?_; rintro e w6 ⟨rfl, hb⟩; have HB6 := Aside0.mk (below_step HB5.out hb); clear hb))
        go_ret
        exact ⟨rfl, HB6.out⟩
      · have e2 : ((k : Int) == 0) = false := beq_eq_false_iff_ne.2 (by omega)
        have HRE := Aside0.mk (fM_read1 n i [1000] (by omega))
        have HRN := Aside0.mk (fM_read1 n i [] (by omega))
        rw [← hk0, fM_all k hk31] at HRE
        rw [← hk0, fM_none k] at HRN
        have e3 : ((xsB k).size : Int) = (k : Int) := by rw [xsB_size]
        generalize xsB k = xb at *
        clear hk0 hz
        go_wp2_with (first
          | (go_at_call 15; refine HCR.out.mono ?_; rintro e w5 ⟨d', b', rfl, hd, _, _, hb⟩
             have hrd := disk_read hd (x := ⟨#[102]⟩) (by decide)
             rw [HRE.out.1, HRE.out.2] at hrd
             have HRD := Aside0.mk hrd
             have HB5 := Aside0.mk (below_step HBR.out hb)
             have HDR := Aside0.mk ((HD.out.below HBA.out).below hb)
             clear hd hb hrd HCR)
          | (go_at_call 16; refine HRD.out.mono ?_; rintro e w6 ⟨rfl, hb⟩
             have HB6 := Aside0.mk (below_step HB5.out hb)
             have HCN := Aside0.mk (disk_crash (HDR.out.below hb) (by omega) [] none 0 (Kd.C_nil _ _))
             clear hb HRD)
          | (go_at_call 15; refine HCN.out.mono ?_; rintro e w7 ⟨d', b', rfl, hd, _, _, hb⟩
             have hrd := disk_read hd (x := ⟨#[102]⟩) (by decide)
             rw [HRN.out.1, HRN.out.2] at hrd
             have HRD := Aside0.mk hrd
             have HB7 := Aside0.mk (below_step HB6.out hb)
             clear hd hb hrd)
          | (go_at_call 16; refine HRD.out.mono ?_; rintro e w8 ⟨rfl, hb⟩; have HB8 := Aside0.mk (below_step HB7.out hb); clear hb))
        go_ret
        exact ⟨rfl, HB8.out⟩
theorem diskFalls_walk (a0 a1 : Int) (w : World) (_ : (Lit.int .i64 a0).wf = true) (_ : (Lit.int .i64 a1).wf = true) : Calls Try.prog 3 #[.int .i64 a0, .int .i64 a1] w fun e w' => e = .returned (.bool true) ∧ Below w.heap.size w w' := falls_in a0 a1 w
end Go.Proofs.Ythcjoiflkhbpfaa.Dk
end
