/- Lemmas that the proof needs, part 1. -/
import Derived.Test.YthcjoiflkhbpfaaProg
import Derived.WalkLawsBesides
import Derived.Below
import Derived.Deep.Draws
import Derived.Deep.AppendLies
import Derived.Maps.AppendAt
import Derived.OwnWalk
import Derived.Laws.BytesArg
import Derived.Laws.MakeOwn
import Derived.Laws.OwnMore
import Derived.Deep.OwnRows
import Derived.Tactics
import Derived.Lib.ConvBytes
import Derived.Laws.Slices
import Derived.WalkKit
import Derived.KernelRfl
import Derived.RowKit3
import Derived.Deep.LoopGhost
import Derived.Deep.QuietTactic
import Derived.BigQuiet
import Derived.WideLaws
import Derived.Deep.DeepCutAuto
import Derived.Deep.CutBlock
import Derived.Deep.RegionHeld3
import Derived.Laws.Rows
import Derived.Lib.AppendStr
import Derived.ArgAppend
import Derived.Laws.IdiomCopy
import Derived.OrdersHeld
import Derived.Laws.BitsLemmas
import Derived.RowKit
import Derived.Test.YthcjoiflkhbpfaaWWords
import Derived.Test.YthcjoiflkhbpfaaWLast
import Derived.Test.YthcjoiflkhbpfaaWQPut
import Derived.Test.YthcjoiflkhbpfaaWApart
import Derived.Test.YthcjoiflkhbpfaaWArr
import Derived.Test.YthcjoiflkhbpfaaWZeros
import Derived.Test.YthcjoiflkhbpfaaWFoot
import Derived.Test.YthcjoiflkhbpfaaWKept
import Derived.Test.YthcjoiflkhbpfaaWShare
import Derived.Test.YthcjoiflkhbpfaaWN
import Derived.Laws.StructEq
import Derived.Test.YthcjoiflkhbpfaaWRepsOne
import Derived.Test.YthcjoiflkhbpfaaWNEv
import Derived.Test.YthcjoiflkhbpfaaWMore
section
namespace Go.Proofs.Ythcjoiflkhbpfaa.P
open Go.RowKit Go.Proofs.YthcjoiflkhbpfaaW.PrintWords Go.Proofs.YthcjoiflkhbpfaaW.PrintLast Go.Proofs.YthcjoiflkhbpfaaW.PrintMore
attribute [local go_sem] max2_int min2_int max_two min_two max_three min_three max_four min_four   -- for this text's walks alone
set_option linter.unusedVariables false
set_option linter.unusedSimpArgs false
structure S55 where
  f0 : ByteArray
  f1 : ByteArray
  f2 : Int
end Go.Proofs.Ythcjoiflkhbpfaa.P
end
section
set_option linter.unusedVariables false
set_option linter.unusedSimpArgs false
namespace Go.Proofs.Ythcjoiflkhbpfaa.Dk
abbrev Fi := P.S55
/-- the order of names -/
def nl (a b : ByteArray) : Prop := a.data.toList < b.data.toList
instance (a b : ByteArray) : Decidable (nl a b) := inferInstanceAs (Decidable (_ < _))
theorem nl_irrefl (a : ByteArray) : ¬ nl a a := List.lt_irrefl _
theorem nl_trans {a b c : ByteArray} (h : nl a b) (k : nl b c) : nl a c := List.lt_trans h k
theorem nl_anti {a b : ByteArray} (h : nl a b) : ¬ nl b a := fun k => nl_irrefl a (nl_trans h k)
theorem nl_ne {a b : ByteArray} (h : nl a b) : a ≠ b := fun e => nl_irrefl b (e ▸ h)
theorem bytes_ext {a b : ByteArray} (h : a.data.toList = b.data.toList) : a = b := by
  cases a; cases b
  congr 1
  exact Array.ext' h
theorem nl_tri (a b : ByteArray) : nl a b ∨ a = b ∨ nl b a := by
  by_cases h1 : nl a b
  · exact .inl h1
  · by_cases h2 : nl b a
    · exact .inr (.inr h2)
    · exact .inr (.inl (bytes_ext (List.le_antisymm (List.not_lt.1 h2) (List.not_lt.1 h1))))
/-- files in order -/
def Srt (l : List Fi) : Prop := l.Pairwise fun a b => nl a.f0 b.f0
def lo (l : List Fi) (x : ByteArray) : List Fi := l.filter fun a => decide (nl a.f0 x)
def hi (l : List Fi) (x : ByteArray) : List Fi := l.filter fun a => decide (nl x a.f0)
def findF (l : List Fi) (x : ByteArray) : Option Fi := l.find? fun a => decide (a.f0 = x)
def putF (l : List Fi) (f : Fi) : List Fi := lo l f.f0 ++ [f] ++ hi l f.f0
def dropF (l : List Fi) (x : ByteArray) : List Fi := lo l x ++ hi l x
theorem srt_put {l : List Fi} (h : Srt l) (f : Fi) : Srt (putF l f) := by
  unfold Srt putF
  rw [List.append_assoc, List.pairwise_append]
  refine ⟨h.filter _, ?_, ?_⟩
  · rw [List.singleton_append, List.pairwise_cons]
    exact ⟨fun a ha => by simpa [hi] using (List.mem_filter.1 ha).2, h.filter _⟩
  · intro a ha b hb
    have h1 : nl a.f0 f.f0 := by simpa using (List.mem_filter.1 ha).2
    rcases List.mem_append.1 hb with hb | hb
    · rw [List.mem_singleton.1 hb]; exact h1
    · exact nl_trans h1 (by simpa using (List.mem_filter.1 hb).2)
theorem srt_drop {l : List Fi} (h : Srt l) (x : ByteArray) : Srt (dropF l x) := by
  unfold Srt dropF
  rw [List.pairwise_append]
  refine ⟨h.filter _, h.filter _, fun a ha b hb => ?_⟩
  have h1 : nl a.f0 x := by simpa using (List.mem_filter.1 ha).2
  exact nl_trans h1 (by simpa using (List.mem_filter.1 hb).2)
theorem mem_put {l : List Fi} {f a : Fi} : a ∈ putF l f ↔ a = f ∨ (a ∈ l ∧ a.f0 ≠ f.f0) := by
  unfold putF lo hi
  simp only [List.mem_append, List.mem_filter, decide_eq_true_eq, List.mem_singleton]
  constructor
  · rintro ((⟨h1, h2⟩ | h) | ⟨h1, h2⟩)
    · exact .inr ⟨h1, nl_ne h2⟩
    · exact .inl h
    · exact .inr ⟨h1, fun e => nl_ne h2 e.symm⟩
  · rintro (h | ⟨h1, h2⟩)
    · exact .inl (.inr h)
    · rcases nl_tri a.f0 f.f0 with h | h | h
      · exact .inl (.inl ⟨h1, h⟩)
      · exact absurd h h2
      · exact .inr ⟨h1, h⟩
theorem mem_drop {l : List Fi} {x : ByteArray} {a : Fi} : a ∈ dropF l x ↔ a ∈ l ∧ a.f0 ≠ x := by
  unfold dropF lo hi
  simp only [List.mem_append, List.mem_filter, decide_eq_true_eq]
  constructor
  · rintro (⟨h1, h2⟩ | ⟨h1, h2⟩)
    · exact ⟨h1, nl_ne h2⟩
    · exact ⟨h1, fun e => nl_ne h2 e.symm⟩
  · rintro ⟨h1, h2⟩
    rcases nl_tri a.f0 x with h | h | h
    · exact .inl ⟨h1, h⟩
    · exact absurd h h2
    · exact .inr ⟨h1, h⟩
theorem find_none {l : List Fi} {x : ByteArray} : findF l x = none ↔ ∀ a ∈ l, a.f0 ≠ x := by
  unfold findF
  rw [List.find?_eq_none]
  simp
theorem find_mem {l : List Fi} {x : ByteArray} {f : Fi} (h : findF l x = some f) : f ∈ l ∧ f.f0 = x := by
  unfold findF at h
  have := List.find?_some h
  exact ⟨List.mem_of_find?_eq_some h, by simpa using this⟩
theorem find_of {l : List Fi} (h : Srt l) {f : Fi} (hf : f ∈ l) : findF l f.f0 = some f := by
  unfold findF
  induction l with
  | nil => cases hf
  | cons b l ih =>
    obtain ⟨h1, h2⟩ := List.pairwise_cons.1 h
    rw [List.find?_cons]
    rcases List.mem_cons.1 hf with rfl | hf'
    · simp
    · have hne : ¬ b.f0 = f.f0 := nl_ne (h1 f hf')
      simp only [hne, decide_false]
      exact ih h2 hf'
/-- where a name is, or would be -/
theorem parts {l : List Fi} (h : Srt l) (x : ByteArray) : (findF l x = none ∧ l = lo l x ++ hi l x) ∨ ∃ f, findF l x = some f ∧ f.f0 = x ∧ l = lo l x ++ f :: hi l x := by
  induction l with
  | nil => exact .inl ⟨rfl, rfl⟩
  | cons b l ih =>
    obtain ⟨h1, h2⟩ := List.pairwise_cons.1 h
    rcases nl_tri b.f0 x with hb | hb | hb
    · have e1 : lo (b :: l) x = b :: lo l x := List.filter_cons_of_pos (by simpa using hb)
      have e2 : hi (b :: l) x = hi l x := List.filter_cons_of_neg (by simpa using nl_anti hb)
      have e3 : findF (b :: l) x = findF l x := by unfold findF; rw [List.find?_cons_of_neg (by simpa using nl_ne hb)]
      rw [e1, e2, e3]
      rcases ih h2 with ⟨q1, q2⟩ | ⟨f, q1, q2, q3⟩
      · exact .inl ⟨q1, by rw [List.cons_append, ← q2]⟩
      · exact .inr ⟨f, q1, q2, by rw [List.cons_append, ← q3]⟩
    · have hgt : ∀ a ∈ l, nl x a.f0 := fun a ha => hb ▸ h1 a ha
      refine .inr ⟨b, by unfold findF; rw [List.find?_cons_of_pos (by simpa using hb)], hb, ?_⟩
      have e1 : lo (b :: l) x = [] := List.filter_eq_nil_iff.2 (fun a ha => by
        rcases List.mem_cons.1 ha with rfl | ha
        · simpa [hb] using nl_irrefl x
        · simpa using nl_anti (hgt a ha))
      have e2 : hi (b :: l) x = l := by
        unfold hi
        rw [List.filter_cons_of_neg (by simpa [hb] using nl_irrefl x)]
        exact List.filter_eq_self.2 (fun a ha => decide_eq_true (hgt a ha))
      rw [e1, e2]
      rfl
    · have hgt : ∀ a ∈ b :: l, nl x a.f0 := fun a ha => by
        rcases List.mem_cons.1 ha with rfl | ha
        · exact hb
        · exact nl_trans hb (h1 a ha)
      refine .inl ⟨find_none.2 (fun a ha e => nl_ne (hgt a ha) e.symm), ?_⟩
      have e1 : lo (b :: l) x = [] := List.filter_eq_nil_iff.2 (fun a ha => by simpa using nl_anti (hgt a ha))
      have e2 : hi (b :: l) x = b :: l := List.filter_eq_self.2 (fun a ha => decide_eq_true (hgt a ha))
      rw [e1, e2]
      rfl
theorem find_put {l : List Fi} (h : Srt l) (f : Fi) (x : ByteArray) : findF (putF l f) x = if x = f.f0 then some f else findF l x := by
  by_cases e : x = f.f0
  · rw [if_pos e, e]
    exact find_of (srt_put h f) (mem_put.2 (.inl rfl))
  · rw [if_neg e]
    cases hf : findF l x with
    | none =>
      rw [find_none] at hf ⊢
      intro a ha
      rcases mem_put.1 ha with rfl | ⟨h1, _⟩
      · exact fun q => e q.symm
      · exact hf a h1
    | some g =>
      obtain ⟨g1, g2⟩ := find_mem hf
      have := find_of (srt_put h f) (mem_put.2 (.inr ⟨g1, by rw [g2]; exact e⟩))
      rwa [g2] at this
theorem find_drop {l : List Fi} (h : Srt l) (x y : ByteArray) : findF (dropF l x) y = if y = x then none else findF l y := by
  by_cases e : y = x
  · rw [if_pos e, e, find_none]
    exact fun a ha => (mem_drop.1 ha).2
  · rw [if_neg e]
    cases hf : findF l y with
    | none =>
      rw [find_none] at hf ⊢
      exact fun a ha => hf a (mem_drop.1 ha).1
    | some g =>
      obtain ⟨g1, g2⟩ := find_mem hf
      have := find_of (srt_drop h x) (mem_drop.2 ⟨g1, by rw [g2]; exact e⟩)
      rwa [g2] at this
/-- the bytes of files -/
def sumD (l : List Fi) : Int := (l.map fun f => (f.f1.size : Int)).sum
theorem sumD_append (a b : List Fi) : sumD (a ++ b) = sumD a + sumD b := by simp [sumD]
theorem sumD_cons (f : Fi) (b : List Fi) : sumD (f :: b) = f.f1.size + sumD b := by simp [sumD]
theorem sumD_nonneg (l : List Fi) : 0 ≤ sumD l := by
  induction l with
  | nil => exact Int.le_refl _
  | cons f l ih => rw [sumD_cons]; omega
/-- how many bytes a name has -/
def sizeO (o : Option Fi) : Int := match o with | none => 0 | some f => f.f1.size
theorem sumD_parts {l : List Fi} (h : Srt l) (x : ByteArray) : sumD l = sumD (lo l x) + sizeO (findF l x) + sumD (hi l x) := by
  rcases parts h x with ⟨h1, h2⟩ | ⟨f, h1, _, h2⟩
  · have := congrArg sumD h2
    rw [sumD_append] at this
    rw [h1, this]
    simp [sizeO]
  · have := congrArg sumD h2
    rw [sumD_append, sumD_cons] at this
    rw [h1, this]
    simp only [sizeO]
    omega
theorem sumD_put {l : List Fi} (h : Srt l) (f : Fi) : sumD (putF l f) = sumD l - sizeO (findF l f.f0) + f.f1.size := by
  have := sumD_parts h f.f0
  unfold putF
  rw [sumD_append, sumD_append, sumD_cons]
  rw [show sumD ([] : List Fi) = 0 from rfl]
  omega
theorem sumD_drop {l : List Fi} (h : Srt l) (x : ByteArray) : sumD (dropF l x) = sumD l - sizeO (findF l x) := by
  have := sumD_parts h x
  unfold dropF
  rw [sumD_append]
  omega
theorem len_put {l : List Fi} (h : Srt l) (f : Fi) : (putF l f).length ≤ l.length + 1 := by
  unfold putF
  rcases parts h f.f0 with ⟨_, h2⟩ | ⟨g, _, _, h2⟩
  · have := congrArg List.length h2
    simp only [List.length_append, List.length_cons, List.length_nil] at this ⊢
    omega
  · have := congrArg List.length h2
    simp only [List.length_append, List.length_cons, List.length_nil] at this ⊢
    omega
/-- the disk -/
structure DM where
  fs : List Fi
  size : Int
  down : Bool
  fall : Int
def roomM (M : DM) : Int := M.size - sumD M.fs
structure OkM (M : DM) : Prop where
  srt : Srt M.fs
  safe : ∀ f ∈ M.fs, 0 ≤ f.f2 ∧ f.f2 ≤ f.f1.size
  name : ∀ f ∈ M.fs, f.f0.size ≤ 40
  room : 0 ≤ roomM M
  size : 0 ≤ M.size ∧ M.size ≤ 1048576
  fall : -1 ≤ M.fall ∧ M.fall ≤ 9223372036854775807
def newM (n : Int) : DM := ⟨[], min (max n 0) 1048576, false, -1⟩
theorem ok_new (n : Int) : OkM (newM n) := by
  refine ⟨List.Pairwise.nil, fun f hf => (by cases hf), fun f hf => (by cases hf), ?_, ?_, ?_⟩
  · show 0 ≤ min (max n 0) 1048576 - 0
    omega
  · show 0 ≤ min (max n 0) 1048576 ∧ min (max n 0) 1048576 ≤ 1048576
    omega
  · show (-1 : Int) ≤ -1 ∧ (-1 : Int) ≤ _
    omega
/-- no power at this turn -/
def out (M : DM) : Bool := M.down || decide (M.fall = 0)
/-- the turn is taken -/
def went (M : DM) : DM := if 0 < M.fall then { M with fall := M.fall - 1 } else M
def gone (M : DM) : DM := { M with down := true }
theorem went_fs (M : DM) : (went M).fs = M.fs := by unfold went; split <;> rfl
theorem went_size (M : DM) : (went M).size = M.size := by unfold went; split <;> rfl
theorem went_room (M : DM) : roomM (went M) = roomM M := by unfold roomM; rw [went_fs, went_size]
theorem ok_went {M : DM} (h : OkM M) : OkM (went M) := by
  refine ⟨by rw [went_fs]; exact h.srt, by rw [went_fs]; exact h.safe, by rw [went_fs]; exact h.name, by rw [went_room]; exact h.room, by rw [went_size]; exact h.size, ?_⟩
  have := h.fall
  unfold went
  split
  · show -1 ≤ M.fall - 1 ∧ M.fall - 1 ≤ _
    omega
  · exact this
theorem ok_gone {M : DM} (h : OkM M) : OkM (gone M) := ⟨h.srt, h.safe, h.name, h.room, h.size, h.fall⟩
theorem ok_files {M : DM} (h : OkM M) {l : List Fi} (h1 : Srt l) (h2 : ∀ f ∈ l, 0 ≤ f.f2 ∧ f.f2 ≤ f.f1.size) (h3 : ∀ f ∈ l, f.f0.size ≤ 40) (h4 : sumD l ≤ M.size) : OkM { M with fs := l } := ⟨h1, h2, h3, by show 0 ≤ M.size - sumD l; omega, h.size, h.fall⟩
def bad (x : ByteArray) : Bool := decide (x.size = 0) || decide (40 < x.size)
def z0 (x : ByteArray) : Fi := ⟨x, ⟨#[]⟩, 0⟩
def curF (l : List Fi) (x : ByteArray) : Fi := (findF l x).getD (z0 x)
def appendG (M : DM) (x d : ByteArray) : Int × DM :=
  if bad x then (1, M) else if roomM M < d.size then (7, M) else (0, { M with fs := putF M.fs ⟨x, (curF M.fs x).f1 ++ d, (curF M.fs x).f2⟩ })
def syncG (M : DM) (x : ByteArray) : Int × DM := match findF M.fs x with
  | none => (5, M)
  | some f => (0, { M with fs := putF M.fs ⟨f.f0, f.f1, (f.f1.size : Int)⟩ })
def renameG (M : DM) (x y : ByteArray) : Int × DM :=
  if bad y then (1, M) else match findF M.fs x with
  | none => (5, M)
  | some f => (0, { M with fs := putF (dropF M.fs x) ⟨y, f.f1, f.f2⟩ })
/-- an act that takes a turn -/
def act (G : DM → Int × DM) (M : DM) : Int × DM := if out M then (8, gone M) else G (went M)
theorem cur_safe {M : DM} (h : OkM M) (x : ByteArray) : 0 ≤ (curF M.fs x).f2 ∧ (curF M.fs x).f2 ≤ (curF M.fs x).f1.size := by
  unfold curF
  cases hf : findF M.fs x with
  | none => exact ⟨Int.le_refl _, Int.le_refl _⟩
  | some f => exact h.safe f (find_mem hf).1
theorem size_cur (l : List Fi) (x : ByteArray) : ((curF l x).f1.size : Int) = sizeO (findF l x) := by
  unfold curF
  cases hf : findF l x with
  | none => rfl
  | some f => rfl
theorem ok_append {M : DM} (h : OkM M) (x d : ByteArray) : OkM (appendG M x d).2 := by
  unfold appendG
  by_cases hb : bad x
  · rw [if_pos hb]; exact h
  · rw [if_neg hb]
    by_cases hr : roomM M < d.size
    · rw [if_pos hr]; exact h
    · rw [if_neg hr]
      refine ok_files h (srt_put h.srt _) ?_ ?_ ?_
      · intro f hf
        rcases mem_put.1 hf with rfl | ⟨h1, _⟩
        · have := cur_safe h x
          show 0 ≤ (curF M.fs x).f2 ∧ (curF M.fs x).f2 ≤ (((curF M.fs x).f1 ++ d).size : Int)
          rw [ByteArray.size_append]
          omega
        · exact h.safe f h1
      · intro f hf
        rcases mem_put.1 hf with rfl | ⟨h1, _⟩
        · unfold bad at hb
          simp only [Bool.or_eq_true, decide_eq_true_eq, not_or] at hb
          show x.size ≤ 40
          omega
        · exact h.name f h1
      · rw [sumD_put h.srt, ← size_cur]
        show sumD M.fs - ((curF M.fs x).f1.size : Int) + (((curF M.fs x).f1 ++ d).size : Int) ≤ M.size
        rw [ByteArray.size_append]
        unfold roomM at hr
        omega
theorem ok_put_same {M : DM} (h : OkM M) {f : Fi} (hf : f ∈ M.fs) {d : ByteArray} {s : Int} (hs : 0 ≤ s ∧ s ≤ d.size) (hd : d.size ≤ f.f1.size) : OkM { M with fs := putF M.fs ⟨f.f0, d, s⟩ } := by
  refine ok_files h (srt_put h.srt _) ?_ ?_ ?_
  · intro g hg
    rcases mem_put.1 hg with rfl | ⟨h1, _⟩
    · exact hs
    · exact h.safe g h1
  · intro g hg
    rcases mem_put.1 hg with rfl | ⟨h1, _⟩
    · exact h.name f hf
    · exact h.name g h1
  · rw [sumD_put h.srt]
    show sumD M.fs - sizeO (findF M.fs f.f0) + (d.size : Int) ≤ M.size
    rw [find_of h.srt hf]
    have := h.room
    unfold roomM at this
    simp only [sizeO]
    omega
theorem ok_sync {M : DM} (h : OkM M) (x : ByteArray) : OkM (syncG M x).2 := by
  unfold syncG
  cases hf : findF M.fs x with
  | none => exact h
  | some f => exact ok_put_same h (find_mem hf).1 (by omega) (Nat.le_refl _)
theorem ok_drop {M : DM} (h : OkM M) (x : ByteArray) : OkM { M with fs := dropF M.fs x } := by
  refine ok_files h (srt_drop h.srt _) (fun f hf => h.safe f (mem_drop.1 hf).1) (fun f hf => h.name f (mem_drop.1 hf).1) ?_
  rw [sumD_drop h.srt]
  have := h.room
  unfold roomM at this
  cases findF M.fs x with
  | none => simp only [sizeO]; omega
  | some f => simp only [sizeO]; omega
theorem ok_rename {M : DM} (h : OkM M) (x y : ByteArray) : OkM (renameG M x y).2 := by
  unfold renameG
  by_cases hb : bad y
  · rw [if_pos hb]; exact h
  · rw [if_neg hb]
    cases hf : findF M.fs x with
    | none => exact h
    | some f =>
      have h' := ok_drop h x
      obtain ⟨g1, g2⟩ := find_mem hf
      refine ok_files h (srt_put h'.srt _) ?_ ?_ ?_
      · intro g hg
        rcases mem_put.1 hg with rfl | ⟨h1, _⟩
        · exact h.safe f g1
        · exact h'.safe g h1
      · intro g hg
        rcases mem_put.1 hg with rfl | ⟨h1, _⟩
        · unfold bad at hb
          simp only [Bool.or_eq_true, decide_eq_true_eq, not_or] at hb
          show y.size ≤ 40
          omega
        · exact h'.name g h1
      · rw [sumD_put h'.srt]
        show sumD (dropF M.fs x) - sizeO (findF (dropF M.fs x) y) + (f.f1.size : Int) ≤ M.size
        rw [sumD_drop h.srt, hf]
        have := h.room
        unfold roomM at this
        cases findF (dropF M.fs x) y with
        | none => simp only [sizeO]; omega
        | some f => simp only [sizeO]; omega
/-- a loss of power: of each file what is safe, and so many bytes more -/
def keepF (ks : List Int) (i : Nat) (f : Fi) : Int := if i < ks.length then f.f2 + min (max (ks.getD i 0) 0) (f.f1.size - f.f2) else f.f2
def crashF (ks : List Int) (i : Nat) (f : Fi) : Fi := ⟨f.f0, f.f1.extract 0 (keepF ks i f).toNat, keepF ks i f⟩
def crashM (M : DM) (ks : List Int) : DM := ⟨M.fs.mapIdx (crashF ks), M.size, false, -1⟩
theorem keep_le (ks : List Int) (i : Nat) {f : Fi} (h : 0 ≤ f.f2 ∧ f.f2 ≤ f.f1.size) : 0 ≤ keepF ks i f ∧ keepF ks i f ≤ f.f1.size := by
  unfold keepF
  split
  · omega
  · exact h
theorem crash_size (ks : List Int) (i : Nat) {f : Fi} (h : 0 ≤ f.f2 ∧ f.f2 ≤ f.f1.size) : ((crashF ks i f).f1.size : Int) = keepF ks i f := by
  have := keep_le ks i h
  show ((f.f1.extract 0 (keepF ks i f).toNat).size : Int) = _
  rw [ByteArray.size_extract]
  omega
theorem srt_map {l : List Fi} (h : Srt l) {g : Nat → Fi → Fi} (hg : ∀ i f, (g i f).f0 = f.f0) : Srt (l.mapIdx g) := by
  unfold Srt at *
  rw [List.pairwise_iff_getElem] at *
  intro i j hi hj hij
  rw [List.getElem_mapIdx, List.getElem_mapIdx, hg, hg]
  exact h i j _ _ hij
theorem sum_map {l : List Fi} {g : Nat → Fi → Fi} (hg : ∀ i f, f ∈ l → ((g i f).f1.size : Int) ≤ f.f1.size) : sumD (l.mapIdx g) ≤ sumD l := by
  induction l generalizing g with
  | nil => exact Int.le_refl _
  | cons f l ih =>
    rw [List.mapIdx_cons, sumD_cons, sumD_cons]
    have h1 := hg 0 f (List.mem_cons_self ..)
    have h2 := ih (g := fun i => g (i + 1)) (fun i a ha => hg (i + 1) a (List.mem_cons_of_mem _ ha))
    omega
theorem ok_crash {M : DM} (h : OkM M) (ks : List Int) : OkM (crashM M ks) := by
  have hm : ∀ g ∈ M.fs.mapIdx (crashF ks), ∃ i f, f ∈ M.fs ∧ g = crashF ks i f := fun g hg => by
    obtain ⟨i, hi, rfl⟩ := List.mem_mapIdx.1 hg
    exact ⟨i, _, List.getElem_mem hi, rfl⟩
  refine ⟨srt_map h.srt (fun i f => rfl), ?_, ?_, ?_, h.size, by show (-1 : Int) ≤ -1 ∧ (-1 : Int) ≤ _; omega⟩
  · intro g hg
    obtain ⟨i, f, hf, rfl⟩ := hm g hg
    rw [crash_size ks i (h.safe f hf)]
    have := keep_le ks i (h.safe f hf)
    exact ⟨this.1, Int.le_refl _⟩
  · intro g hg
    obtain ⟨i, f, hf, rfl⟩ := hm g hg
    exact h.name f hf
  · show 0 ≤ M.size - sumD (M.fs.mapIdx (crashF ks))
    have h1 := sum_map (l := M.fs) (g := crashF ks) (fun i f hf => by
      rw [crash_size ks i (h.safe f hf)]
      exact (keep_le ks i (h.safe f hf)).2)
    have h2 := h.room
    unfold roomM at h2
    omega
/-- the first i files behind a loss of power -/
def crashTo (M : DM) (ks : List Int) (i : Nat) : DM := { crashM M ks with fs := (M.fs.mapIdx (crashF ks)).take i }
theorem crash_all (M : DM) (ks : List Int) : crashTo M ks M.fs.length = crashM M ks := by
  unfold crashTo
  rw [List.take_of_length_le (by rw [List.length_mapIdx]; exact Nat.le_refl _)]
  rfl
theorem sumD_take (l : List Fi) (i : Nat) : sumD (l.take i) ≤ sumD l := by
  have e := congrArg sumD (List.take_append_drop i l)
  rw [sumD_append] at e
  have := sumD_nonneg (l.drop i)
  omega
theorem ok_crashTo {M : DM} (h : OkM M) (ks : List Int) (i : Nat) : OkM (crashTo M ks i) := by
  have hc := ok_crash h ks
  have hr := hc.room
  refine ⟨hc.srt.sublist (List.take_sublist _ _), fun f hf => hc.safe f (List.mem_of_mem_take hf), fun f hf => hc.name f (List.mem_of_mem_take hf), ?_, hc.size, hc.fall⟩
  have := sumD_take (M.fs.mapIdx (crashF ks)) i
  unfold roomM at hr ⊢
  show 0 ≤ M.size - sumD ((M.fs.mapIdx (crashF ks)).take i)
  have hr' : 0 ≤ M.size - sumD (M.fs.mapIdx (crashF ks)) := hr
  omega
theorem put_last {l : List Fi} {f : Fi} (h : ∀ a ∈ l, nl a.f0 f.f0) : putF l f = l ++ [f] := by
  unfold putF
  have e1 : lo l f.f0 = l := List.filter_eq_self.2 (fun a ha => decide_eq_true (h a ha))
  have e2 : hi l f.f0 = [] := List.filter_eq_nil_iff.2 (fun a ha => by simpa using nl_anti (h a ha))
  rw [e1, e2, List.append_nil]
theorem crash_step {M : DM} (h : OkM M) (ks : List Int) {i : Nat} (hi : i < M.fs.length) : { crashTo M ks i with fs := putF (crashTo M ks i).fs (crashF ks i M.fs[i]) } = crashTo M ks (i + 1) := by
  have hc : Srt (M.fs.mapIdx (crashF ks)) := (ok_crash h ks).srt
  have hl : i < (M.fs.mapIdx (crashF ks)).length := by rw [List.length_mapIdx]; exact hi
  have e : putF ((M.fs.mapIdx (crashF ks)).take i) (crashF ks i M.fs[i]) = (M.fs.mapIdx (crashF ks)).take (i + 1) := by
    rw [put_last, List.take_succ_eq_append_getElem hl, List.getElem_mapIdx]
    intro a ha
    obtain ⟨j, hj, rfl⟩ := List.mem_iff_getElem.1 ha
    rw [List.length_take] at hj
    have := List.pairwise_iff_getElem.1 hc j i (by omega) hl (by omega)
    rw [List.getElem_take]
    rw [List.getElem_mapIdx (h := hl)] at this
    exact this
  unfold crashTo
  rw [e]
end Go.Proofs.Ythcjoiflkhbpfaa.Dk
end
section
set_option linter.unusedVariables false
set_option linter.unusedSimpArgs false
namespace Go.Proofs.Ythcjoiflkhbpfaa.Dk
open Go.RowKit Go.Proofs.YthcjoiflkhbpfaaW.PrintWords Go.Proofs.YthcjoiflkhbpfaaW.PrintLast Go.Proofs.YthcjoiflkhbpfaaW.PrintMore
theorem up {w w1 : World} (hb : Below w.heap.size w w1) {a : Addr} {v : Value} (h : w.cell? a = some v) : w1.cell? a = some v := (hb.cell (World.block_lt_of_cell? w _ h)).trans h
/-- Nothing has changed but the blocks of F, and what is new. -/
structure Fr (F : Nat → Prop) (w w' : World) : Prop where
  os : w'.os = w.os
  tape : w'.tape = w.tape
  output : w'.output = w.output
  size : w.heap.size ≤ w'.heap.size
  block : ∀ k, k < w.heap.size → ¬ F k → w'.heap[k]? = w.heap[k]?
theorem Fr.refl (F : Nat → Prop) (w : World) : Fr F w w := ⟨rfl, rfl, rfl, Nat.le_refl _, fun _ _ _ => rfl⟩
theorem Fr.trans {F : Nat → Prop} {a b c : World} (h : Fr F a b) (k : Fr F b c) : Fr F a c := ⟨k.os.trans h.os, k.tape.trans h.tape, k.output.trans h.output, Nat.le_trans h.size k.size, fun i hi hn => (k.block i (Nat.lt_of_lt_of_le hi h.size) hn).trans (h.block i hi hn)⟩
theorem Fr.below {F : Nat → Prop} {w w' : World} (h : Below w.heap.size w w') : Fr F w w' := ⟨h.os, h.tape, h.output, h.size, fun k hk _ => h.block k hk⟩
theorem Fr.isBelow {n : Nat} {w w' : World} {F : Nat → Prop} (h : Fr F w w') (hF : ∀ k, k < n → ¬ F k) (hn : n ≤ w.heap.size) : Below n w w' := ⟨h.os, h.tape, h.output, h.size, fun k hk => h.block k (Nat.lt_of_lt_of_le hk hn) (hF k hk)⟩
theorem Fr.grown {F : Nat → Prop} {w w' : World} {b : Nat} (h : w.grownBy w' (some b)) (hb : F b) : Fr F w w' := ⟨h.os, h.tape, h.output, h.size, fun k hk hn => h.block k hk (fun e => hn (by cases e; exact hb))⟩
theorem Fr.setCell {F : Nat → Prop} (w : World) (b i : Nat) (v : Value) (hb : F b) : Fr F w (w.setCell ⟨b, i, none⟩ v) := ⟨rfl, rfl, rfl, by simp [World.setCell], fun k hk hn => Below.heap_setCell w _ _ k (fun e => hn (by rw [e]; exact hb))⟩
theorem Fr.alloc {F : Nat → Prop} (w : World) (o : Obj) : Fr F w (w.alloc o) := .below (below_alloc (Below.refl _ _) _)
theorem Fr.drew {F : Nat → Prop} (w : World) : Fr F w w.drew := ⟨rfl, rfl, rfl, Nat.le_refl _, fun _ _ _ => rfl⟩
theorem Fr.mono {F G : Nat → Prop} {w w' : World} (h : Fr F w w') (hFG : ∀ k, k < w.heap.size → F k → G k) : Fr G w w' := ⟨h.os, h.tape, h.output, h.size, fun k hk hn => h.block k hk (fun e => hn (hFG k hk e))⟩
theorem Fr.cellOf {F : Nat → Prop} {w w' : World} (h : Fr F w w') {a : Addr} {v : Value} (hc : w.cell? a = some v) (hn : ¬ F a.block) : w'.cell? a = some v := by
  have hb := h.block a.block (World.block_lt_of_cell? w _ hc) hn
  unfold World.cell? at *
  rw [hb]
  exact hc
theorem heap_setCell_at (w : World) (g i : Nat) (cur : Array Value) (t : TypeId) (fr : Nat × Nat) (v : Value) (hg : w.heap[g]? = some (.cells cur t fr)) : (w.setCell ⟨g, i, none⟩ v).heap[g]? = some (.cells (cur.setIfInBounds i v) t fr) := by
  rw [setCell_eq_setRow w g i cur t fr v hg]; exact setRow_heap w g cur _ t fr hg
theorem size_setCell (w : World) (a : Addr) (v : Value) : (w.setCell a v).heap.size = w.heap.size := by simp [World.setCell]
theorem w64 {x : Int} (h0 : -9223372036854775808 ≤ x) (h1 : x < 9223372036854775808) : wrap64 x = x := by
  unfold wrap64; omega
end Go.Proofs.Ythcjoiflkhbpfaa.Dk
end
