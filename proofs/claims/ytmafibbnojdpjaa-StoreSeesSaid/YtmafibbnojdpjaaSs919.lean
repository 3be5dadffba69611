/- Lemmas that the proof needs, part 19. -/
import Derived.Shelf.Small.Strs
import Derived.Shelf.SlSortCmp.NoneTotal
import Derived.Test.YtmafibbnojdpjaaWKept
import Derived.Deep.RegionHeld3
import Derived.Test.YtmafibbnojdpjaaWWords
import Derived.Test.YtmafibbnojdpjaaSs91
import Derived.Test.YtmafibbnojdpjaaSs92
import Derived.Test.YtmafibbnojdpjaaSs93
import Derived.Test.YtmafibbnojdpjaaSs94
import Derived.Test.YtmafibbnojdpjaaSs95
import Derived.Test.YtmafibbnojdpjaaSs96
import Derived.Test.YtmafibbnojdpjaaSs97
import Derived.Test.YtmafibbnojdpjaaSs98
import Derived.Test.YtmafibbnojdpjaaSs99
import Derived.Test.YtmafibbnojdpjaaSs910
import Derived.Test.YtmafibbnojdpjaaSs911
import Derived.Test.YtmafibbnojdpjaaSs918
section
set_option linter.unusedVariables false
set_option maxRecDepth 100000
set_option linter.unusedSimpArgs false
namespace Go.Proofs.Ytmafibbnojdpjaa.St
open Go.Proofs.Ytmafibbnojdpjaa.Tr Go.RowKit Go.Proofs.YtmafibbnojdpjaaW.PrintWords Go.Proofs.YtmafibbnojdpjaaW.PrintLast Go.Proofs.YtmafibbnojdpjaaW.PrintMore Go.Proofs.Ytmafibbnojdpjaa.P Go.Sort
attribute [local go_sem] Oper.semAt_some
/-- a write's three cells -/
def enW3 (x : Wr) : List Value := [.string x.f0, .string x.f1, .bool x.f2]
instance : Inhabited Wr := ⟨w0⟩
def cfW (x y : Wr) : Int := Lib.compareBytes x.f0.data.toList y.f0.data.toList
theorem ltW (x y : Wr) : ltOf cfW x y = decide (kl x.f0 y.f0) := rfl
theorem swoW : SWO (ltOf cfW) where
  irrefl x := by rw [ltW]; exact decide_eq_false (kl_irrefl _)
  trans x y z h1 h2 := by
    rw [ltW, decide_eq_true_eq] at *
    exact kl_trans h1 h2
  ntrans x y z h1 h2 := by
    rw [ltW, decide_eq_false_iff_not] at *
    intro h3
    exact h2 (kl_le_trans h1 h3)
def flatW (l : List Wr) : List Value := l.flatMap enW3
theorem flatW_cons (x : Wr) (l : List Wr) : flatW (x :: l) = enW3 x ++ flatW l := rfl
theorem flatW_len (l : List Wr) : (flatW l).length = l.length * 3 := by
  induction l with
  | nil => rfl
  | cons x l ih => rw [flatW_cons, List.length_append, ih, List.length_cons]; simp [enW3]; omega
theorem flatW_get (l : List Wr) : ∀ j, j < l.length * 3 → (flatW l)[j]? = some ((enW3 l.toArray[j / 3]!)[j % 3]!) := by
  induction l with
  | nil => intro j h; simp at h
  | cons x l ih =>
    intro j h
    rw [flatW_cons]
    rcases Nat.lt_or_ge j 3 with hj | hj
    · rw [List.getElem?_append_left (by simpa [enW3] using hj)]
      have h0 : j / 3 = 0 := by omega
      have h1 : j % 3 = j := by omega
      rw [h0, h1]
      have : (x :: l).toArray[0]! = x := by simp
      rw [this]
      rcases j with _ | _ | _ | j
      · rfl
      · rfl
      · rfl
      · omega
    · rw [List.getElem?_append_right (by simpa [enW3] using hj)]
      have h2 : (enW3 x).length = 3 := rfl
      rw [h2]
      have hlt : j - 3 < l.length * 3 := by rw [List.length_cons] at h; omega
      rw [ih (j - 3) hlt]
      have h0 : j / 3 = (j - 3) / 3 + 1 := by omega
      have h1 : j % 3 = (j - 3) % 3 := by omega
      rw [h0, h1]
      have : (x :: l).toArray[(j - 3) / 3 + 1]! = l.toArray[(j - 3) / 3]! := by simp
      rw [this]
theorem flatW_reps {w : World} {base : Nat} {ok : Nat → Prop} (l : List Wr) : Reps (k31.M w base ok) 3 l (flatW l) := by
  refine ⟨flatW_len l, ?_⟩
  induction l with
  | nil => intro j p h; simp at h
  | cons x l ih =>
    intro j p h
    rw [flatW_cons]
    rcases j with _ | j
    · have : p = x := by simpa using h.symm
      subst this
      exact k31_mkM w base ok p
    · have h' : l[j]? = some p := by simpa using h
      have e : (enW3 x ++ flatW l).drop ((j + 1) * 3) = (flatW l).drop (j * 3) := by
        rw [List.drop_append, List.drop_of_length_le (by simp [enW3]; omega), List.nil_append, show (enW3 x).length = 3 from rfl, show (j + 1) * 3 - 3 = j * 3 from by omega]
      rw [e]
      exact ih j p h'
theorem reps_flat {w : World} {base : Nat} {ok : Nat → Prop} {l : List Wr} {cs : List Value} (h : Reps (k31.M w base ok) 3 l cs) : cs = flatW l := by
  apply List.ext_getElem?
  intro j
  by_cases hj : j < l.length * 3
  · rw [flatW_get l j hj]
    have hq : j / 3 < l.length := by omega
    have h1 := h.2 (j / 3) l[j / 3] (List.getElem?_eq_getElem hq)
    have h2 := k31_openM h1
    have h3 : ((cs.drop (j / 3 * 3)).take 3)[j % 3]? = cs[j]? := by
      rw [List.getElem?_take_of_lt (Nat.mod_lt _ (by decide)), List.getElem?_drop]
      congr 1
      omega
    rw [← h3, h2]
    have h4 : l.toArray[j / 3]! = l[j / 3] := by simp [hq]
    rw [h4]
    have h5 : j % 3 < 3 := Nat.mod_lt _ (by decide)
    generalize j % 3 = r at *
    rcases r with _ | _ | _ | r
    · rfl
    · rfl
    · rfl
    · omega
  · rw [List.getElem?_eq_none (by rw [h.1]; omega), List.getElem?_eq_none (by rw [flatW_len]; omega)]
theorem holds_W {w : World} {g : Nat} {cur : Array Value} {e : TypeId} {l : List Wr} (hb : w.heap[g]? = some (.cells cur e (0, 0))) (ht : cur.toList.take (l.length * 3) = flatW l) : HoldsK enW3 3 w g 0 l.toArray := by
  intro j hj
  have hj' : j < l.length * 3 := by simpa using hj
  refine ⟨?_, by simp [World.frozen?, hb]⟩
  have h1 : (cur.toList.take (l.length * 3))[j]? = (flatW l)[j]? := by rw [ht]
  rw [List.getElem?_take_of_lt hj', flatW_get l j hj'] at h1
  simp only [World.cell?, hb, Nat.zero_add]
  simp only [Option.isSome_none, Bool.false_eq_true, if_false]
  rw [← Array.getElem?_toList, h1, get_flatK _ _ _ _ (by simpa using hj')]
  rfl
theorem heap_W {w : World} {g n : Nat} {os : Array Obj} {cur : Array Value} {e : TypeId} {fr : Nat × Nat} (d : Array Wr) (hb : w.heap[g]? = some (.cells cur e fr)) :
    (sortWorldK enW3 3 w g 0 n d os).heap[g]? = some (.cells (putCells id 0 (flatK enW3 3 d) cur) e fr) := by
  have hg : g < w.heap.size := (Array.getElem?_eq_some_iff.1 hb).1
  unfold sortWorldK putRowK
  rw [heap_grow_old _ _ (by simpa [putRow, mapBlock, Sort.ahead] using hg)]
  simp [putRow, mapBlock, Sort.ahead, Array.getElem?_modify, hb, onCells]
theorem grown_W {w : World} {g n : Nat} {os : Array Obj} (d : Array Wr) : w.grownBy (sortWorldK enW3 3 w g 0 n d os) (some g) := by
  refine ⟨rfl, rfl, rfl, by simp [sortWorldK, grow, putRowK, putRow, mapBlock, Sort.ahead], fun k hk hne => ?_⟩
  unfold sortWorldK putRowK
  rw [heap_grow_old _ _ (by simpa [putRow, mapBlock, Sort.ahead] using hk)]
  have : g ≠ k := fun e => hne (by rw [e])
  simp [putRow, mapBlock, Sort.ahead, Array.getElem?_modify, this]
theorem take_W (cur : Array Value) (ts : List Wr) (h : ts.length * 3 ≤ cur.size) : (putCells id 0 (flatK enW3 3 ts.toArray) cur).toList.take (ts.length * 3) = flatW ts := by
  apply List.ext_getElem?
  intro j
  by_cases hj : j < ts.length * 3
  · rw [List.getElem?_take_of_lt hj, Array.getElem?_toList, flatW_get ts j hj]
    have h2 := get_flatK enW3 3 ts.toArray j (by simpa using hj)
    simp only [putCells, Array.getElem?_mapIdx, Nat.zero_le, Nat.zero_add, size_flatK, List.size_toArray, true_and, Nat.sub_zero, id]
    rw [Array.getElem?_eq_getElem (show j < cur.size by omega)]
    simp only [Option.map_some]
    rw [if_pos hj, h2]
  · rw [List.getElem?_take_eq_none (by omega), List.getElem?_eq_none (by rw [flatW_len]; omega)]
theorem strcmp (a b : ByteArray) (w : World) : Calls Try.prog 78 #[.string a, .string b] w fun e w' => e = .returned (.int .i64 (Lib.compareBytes a.data.toList b.data.toList)) ∧ w' = w := Any.strings_Compare sx106 a b w
theorem sort_none (p : Option Addr) (cap : Nat) (fv : Value) (w : World) : Calls Try.prog 76 #[.slice p 0 cap, fv] w fun e w' => e = .returned (.tuple #[]) ∧ w' = w := AnyF.slices_SortFunc_none sxSort p cap fv w
/-- the closure that compares two writes -/
theorem cmpW (x y : Wr) (W : World) : Calls Try.prog 77 #[.agg #[.string x.f0, .string x.f1, .bool x.f2], .agg #[.string y.f0, .string y.f1, .bool y.f2]] W fun e w' => e = .returned (.int .i64 (cfW x y)) ∧ ∃ q os', w' = grow (W.drewN q) os' := by
  have hcon := fun W' => strcmp x.f0 y.f0 W'
  have e : cfW x y = Lib.compareBytes x.f0.data.toList y.f0.data.toList := rfl
  rw [e]
  clear e
  generalize Lib.compareBytes x.f0.data.toList y.f0.data.toList = r at hcon ⊢
  obtain ⟨a0, a1, a2⟩ := three_new W 31 (.string x.f0) (.string x.f1) (.bool x.f2)
  obtain ⟨b0, b1, b2⟩ := three_new (W.alloc (.cells #[.string x.f0, .string x.f1, .bool x.f2] 31)) 31 (.string y.f0) (.string y.f1) (.bool y.f2)
  have hu : Below (W.alloc (.cells #[.string x.f0, .string x.f1, .bool x.f2] 31)).heap.size (W.alloc (.cells #[.string x.f0, .string x.f1, .bool x.f2] 31)) ((W.alloc (.cells #[.string x.f0, .string x.f1, .bool x.f2] 31)).alloc (.cells #[.string y.f0, .string y.f1, .bool y.f2] 31)) := below_alloc (Below.refl _ _) _
  have a0 := up hu a0
  rw [World.size_alloc] at b0 b1 b2
  clear hu a1 a2 b1 b2
  go_enter Try.func77, Try.ntmps77
  go_wp2_with (first | (go_at_call 78; refine (hcon _).mono ?_; rintro e w' ⟨rfl, rfl⟩))
  go_ret
  exact ⟨rfl, 0, _, by rw [alloc_eq_grow, alloc_eq_grow, grow_grow]; rfl⟩
theorem sort_rows (blk off cap : Nat) (d : Array Wr) (w : World) (hH : HoldsK enW3 3 w blk off d) (hblk : blk < w.heap.size) (hsz : d.size < 4611686018427387904) :
    Calls Try.prog 76 #[.slice (some ⟨blk, off, none⟩) d.size cap, .func (.func 77) #[] #[]] w fun e w' => e = .returned (.tuple #[]) ∧ ∃ d' n os, PermIn 0 d.size d d' ∧ SortedIn (ltOf cfW) 0 d.size d' ∧ w' = sortWorldK enW3 3 w blk off n d' os :=
  AnyQ.slices_SortFunc sxSort 3 Try.isAgg31 Try.sizeOf31 enW3 (fun _ => rfl) (fun x v hv => by simp [enW3] at hv; rcases hv with rfl | rfl | rfl <;> rfl) cfW swoW 77 #[] blk off cap d w (enters_of Try.func77 (by kernel_rfl) rfl) (fun _ _ _ _ x y => cmpW x y _) hH hblk hsz
/-- slices.SortFunc by keys: a row of writes of the call's own, sorted -/
theorem sortW (l : List Wr) (v : Value) (w : World) (base : Nat) (ok : Nat → Prop) (hr : Kd.R k31 31 w base ok v l) (hl : l.length < 1000000) :
    Calls Try.prog 76 #[v, .func (.func 77) #[] #[]] w fun e w' => e = .returned (.tuple #[]) ∧ ∃ ts : List Wr, ts.Perm l ∧ ts.Pairwise (fun a b => ¬ kl b.f0 a.f0) ∧ Kd.R k31 31 w' base ok v ts ∧ w.grownBy w' v.ownBlock := by
  obtain ⟨h0, inner, ⟨hlen, hown⟩, hrep⟩ := hr
  rcases hown with ⟨rfl, hz⟩ | ⟨g, cap, cur, rfl, hbase, hbk, h1, h2, h3, h4⟩
  · have hln : l = [] := List.length_eq_zero_iff.1 (by first | exact hz | exact hz.1 | omega)
    subst hln
    refine (sort_none none 0 _ w).mono ?_
    rintro e w' ⟨rfl, rfl⟩
    exact ⟨rfl, [], List.Perm.refl _, List.Pairwise.nil, ⟨h0, inner, ⟨hlen, .inl ⟨rfl, hz⟩⟩, hrep⟩, ⟨rfl, rfl, rfl, Nat.le_refl _, fun _ _ _ => rfl⟩⟩
  · have hin := reps_flat hrep
    rw [hin] at h4
    have hH := holds_W hbk h4
    have hgl : g < w.heap.size := (Array.getElem?_eq_some_iff.1 hbk).1
    refine (sort_rows g 0 cap l.toArray w hH hgl (by simp; omega)).mono ?_
    rintro e w' ⟨rfl, d', n, os, hp, hs, rfl⟩
    obtain ⟨hsz, _, hperm⟩ := hp
    have hpm : d'.toList.Perm l := by
      have e1 : d'.extract 0 l.toArray.size = d' := by rw [← hsz]; exact Array.extract_size
      rw [e1, Array.extract_size] at hperm
      exact hperm
    have hlen' : d'.toList.length = l.length := hpm.length_eq
    have hdl : d' = d'.toList.toArray := by simp
    refine ⟨rfl, d'.toList, hpm, ?_, ?_, grown_W _⟩
    · rw [List.pairwise_iff_getElem]
      intro i j hi hj hij
      have h5 := hs i j (Nat.zero_le _) hij (by simpa [hlen'] using (show j < l.length by omega))
      rw [ltW, decide_eq_false_iff_not] at h5
      have hj' : j < d'.size := by simpa using hj
      have hi' : i < d'.size := by simpa using hi
      rw [getElem!_pos d' j hj', getElem!_pos d' i hi'] at h5
      simpa using h5
    · have hb2 := heap_W (n := n) (os := os) d' hbk
      refine ⟨h0, flatW d'.toList, ⟨by rw [flatW_len]; rfl, .inr ⟨g, cap, _, by rw [hlen'], hbase, hb2, by rw [hlen']; exact h1, h2, by simp [putCells, h3], ?_⟩⟩, flatW_reps _⟩
      have h6 := take_W cur d'.toList (by rw [hlen', h3]; exact Nat.mul_le_mul_right _ h1)
      rw [← hdl] at h6
      exact h6
end Go.Proofs.Ytmafibbnojdpjaa.St
end
