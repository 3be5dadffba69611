/- Lemmas that the proof needs, part 17. -/
import Derived.Maps.OwnIn
import Derived.Test.YtmafibbnojdpjaaWKept
import Derived.Deep.RegionHeld3
import Derived.Test.YtmafibbnojdpjaaWWords
import Derived.Test.YtmafibbnojdpjaaWpo2
import Derived.Test.YtmafibbnojdpjaaWpo3
import Derived.Test.YtmafibbnojdpjaaWpo4
import Derived.Test.YtmafibbnojdpjaaWpo5
import Derived.Test.YtmafibbnojdpjaaWpo6
import Derived.Test.YtmafibbnojdpjaaWpo7
import Derived.Test.YtmafibbnojdpjaaWpo8
import Derived.Test.YtmafibbnojdpjaaWpo9
import Derived.Test.YtmafibbnojdpjaaWpo10
import Derived.Test.YtmafibbnojdpjaaWpo11
import Derived.Test.YtmafibbnojdpjaaWpo12
import Derived.Test.YtmafibbnojdpjaaWpo14
import Derived.Test.YtmafibbnojdpjaaWpo15
import Derived.Test.YtmafibbnojdpjaaWpo16
section
set_option linter.unusedVariables false
set_option maxRecDepth 100000
set_option linter.unusedSimpArgs false
namespace Go.Proofs.Ytmafibbnojdpjaa.St
open Go.Proofs.Ytmafibbnojdpjaa.Tr Go.RowKit Go.Proofs.YtmafibbnojdpjaaW.PrintWords Go.Proofs.YtmafibbnojdpjaaW.PrintLast Go.Proofs.YtmafibbnojdpjaaW.PrintMore Go.Proofs.Ytmafibbnojdpjaa.P
attribute [local go_sem] Oper.semAt_some
theorem R_append_in {F : Fence} {n : Nat} {P : Program} {ops : Array Oper} {rest : List Oper} {o : Oper} {a : Act} {Q : Exit → Act → World → Prop} {α : Type} (d : Kd α) {W V : World} (cs : List Value) (e : TypeId) (hV : V = W.alloc (.cells cs.toArray e)) (base : Nat) (hgd : o.guard = none) (s x : Operand) (t : TypeId) (z : Value) (bytes : Nat)
    (ho : o.op = .call { callee := .builtin .append, args := #[s, x], argTypes := #[t, t] })
    (ht : P.underlying t = some (.slice e)) (hinfo : (P.info? e).map (fun i => (i.zero, i.size, i.bytes)) = some (some z, d.sz, bytes)) (hz : z.cells.size = d.sz) (hs0 : 0 < d.sz) (hb0 : 0 < bytes)
    (v : Value) (xs : List α) (p : α) (ok okp : Nat → Prop) (hs : a.eval s = v) (hx : a.eval x = .slice (some ⟨W.heap.size, 0, none⟩) 1 1) (hp : d.M W base okp p cs) (hokp : ∀ k, okp k → ok k ∧ some k ≠ v.ownBlock) (hfresh : ∀ k, W.heap.size ≤ k → ok k)
    (HO : d.R e W base ok v xs) (hbase : base ≤ W.heap.size) (hl : (xs.length + 1) * bytes ≤ 140737488355328)
    (h : ∀ v1 w1, d.R e w1 base ok v1 (xs ++ [p]) → W.grownBy w1 v.ownBlock → wpListIn F n P ops Q rest (a.put o.dst v1) w1) :
    wpListIn F n P ops Q (o :: rest) a V := by
  subst hV
  obtain ⟨h0, inner, hown, hr⟩ := HO
  obtain ⟨i0, hi, hzz⟩ := Option.map_eq_some_iff.1 hinfo
  simp only [Prod.mk.injEq] at hzz
  obtain ⟨hz0, hz1, hz2⟩ := hzz
  have hlen : xs.length + 1 ≤ 140737488355328 := Nat.le_trans (Nat.le_mul_of_pos_right _ hb0) hl
  refine wpListIn_append_own_at (W.alloc (.cells cs.toArray e)) hgd s x t ho base e i0 z d.sz bytes ht hi hz0 hz1 hz2 hz hs0 v xs.length inner hs (hown.alloc _) ⟨W.heap.size, 0, none⟩ 1 1 cs hx (by rw [d.K_len (d.K_of_M hp)]; simp)
    (by simpa using World.news_of_block (cs := cs.toArray) (t := e) (fr := (0, 0)) (heap_alloc_new W (.cells cs.toArray e))) (d.K_one (d.K_of_M hp)) (by simp only [maxLen]; omega) hl (by simp; omega) ?_
  intro v1 w1 hown1 hg _ hat
  have hg1 := World.grownBy.trans (World.grownBy_alloc W _ _) hg
  refine h v1 w1 (Kd.R_appended h0 hr hp hokp hfresh hown1 hg1 ?_) hg1
  rcases hat with hat | hat
  · exact .inl hat
  · exact .inr ⟨_, hat, by simp⟩
variable {G : Nat → Prop} {col : Nat → Nat} {w w' : World} {s : Nat} {M : StM} {H : Value} {L : List Tr.Item}
end Go.Proofs.Ytmafibbnojdpjaa.St
end
