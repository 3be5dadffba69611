/- Lemmas that the proof needs, part 14. -/
import Derived.RangeFuncNested
import Derived.RangeFuncBound
import Derived.RangeFuncCalls
import Derived.RangeFuncLeaves
import Derived.Shelf.Abstract
import Derived.Shelf.RegionOpen
import Derived.WalkKit
import Derived.OwnWalkIn
import Derived.TacticsInMore
import Derived.LoopNIn
import Derived.LoopIn
import Derived.Scope
import Derived.RangeFuncFrom
import Derived.RangeFuncBox
import Derived.Test.YtmafibbnojdpjaaKp1
import Derived.Test.YtmafibbnojdpjaaKp2
import Derived.Test.YtmafibbnojdpjaaKp3
import Derived.Test.YtmafibbnojdpjaaKp4
import Derived.Test.YtmafibbnojdpjaaKp5
import Derived.Test.YtmafibbnojdpjaaKp6
import Derived.Test.YtmafibbnojdpjaaKp7
import Derived.Test.YtmafibbnojdpjaaKp8
import Derived.Test.YtmafibbnojdpjaaKp9
import Derived.Test.YtmafibbnojdpjaaKp10
import Derived.Test.YtmafibbnojdpjaaKp11
import Derived.Test.YtmafibbnojdpjaaKp12
import Derived.Test.YtmafibbnojdpjaaKp13
section
set_option linter.unusedVariables false
set_option maxRecDepth 100000
set_option linter.unusedSimpArgs false
namespace Go.Proofs.Ytmafibbnojdpjaa.St
open Go.Proofs.Ytmafibbnojdpjaa.Tr Go.RowKit Go.Proofs.YtmafibbnojdpjaaW.PrintWords Go.Proofs.YtmafibbnojdpjaaW.PrintLast Go.Proofs.YtmafibbnojdpjaaW.PrintMore Go.Proofs.Ytmafibbnojdpjaa.P
variable {G : Nat → Prop} {col : Nat → Nat} {w w' : World} {s : Nat} {M : StM} {H : Value} {L : List Tr.Item}
/-- what belongs to a key behind a commit -/
def getO (M : StM) (x : ByteArray) (q : Int) : Option ByteArray := atO (chainK M.K x) q
theorem chain_len {t : Int} {K : List KC} (h : Mid t K) (ht : -1 ≤ t) (ht2 : t ≤ maxSeq) (x : ByteArray) : (chainK K x).length < 4611686018427387904 := by
  have := ch_len (chainK_ok h x) ht
  unfold maxSeq at ht2
  omega
set_option maxHeartbeats 2000000 in
theorem get_any (h : StoreC G col w s M H L) (hinv : Inv M) (hsz : M.K.length ≤ 2000000) (x : ByteArray) (q : Int) :
    Calls Try.prog 51 #[.pointer (some ⟨s, 0, none⟩), .string x, .int .i64 q] w fun e w' => e = .returned (.tuple #[.string ((getO M x q).getD ⟨#[]⟩), .bool (getO M x q).isSome]) ∧ Below w.heap.size w w' := by
  have HG := Aside0.mk (get_chain h hinv.srt (by unfold maxTree; omega) x)
  have HAT : Aside0 (∀ (A : Option Addr) (n : Nat) (W : World), (chainK M.K x).length ≤ n → Kd.C k118 W A (chainK M.K x).length (chainK M.K x) → Calls Try.prog 83 #[.slice A (chainK M.K x).length n, .int .i64 q] W fun e w' => e = .returned (.tuple #[.string ((getO M x q).getD ⟨#[]⟩), .bool (getO M x q).isSome]) ∧ Below W.heap.size W w') := ⟨fun A n W hn hC => at_any (chainK_ok hinv.mid x).up A n q W hC hn (chain_len hinv.mid (by have := hinv.last0; omega) hinv.last x)⟩
  clear h hinv hsz
  generalize getO M x q = r at *
  go_enter Try.func51, Try.ntmps51
  go_wp2_with (first
    | (go_at_call 67; refine HG.out.mono ?_; rintro e w1 ⟨v, rfl, hr, hb⟩; obtain ⟨A, n, rfl, hn, hC⟩ := Kd.R_reads hr; have HC := Aside0.mk (Kd.C_below hC hb); have HN := Aside0.mk hn; have HB := Aside0.mk hb; clear hr hb hn hC)
    | (go_at_call 83; refine (HAT.out A n _ HN.out HC.out).mono ?_; rintro e w2 ⟨rfl, hb⟩; have HB2 := Aside0.mk (below_step HB.out hb); clear hb))
  go_ret2
  exact ⟨rfl, HB2.out⟩
end Go.Proofs.Ytmafibbnojdpjaa.St
end
