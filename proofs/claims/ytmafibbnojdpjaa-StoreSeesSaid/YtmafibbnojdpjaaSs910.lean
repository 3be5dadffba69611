/- Lemmas that the proof needs, part 10. -/
section
set_option linter.unusedVariables false
set_option linter.unusedSimpArgs false
namespace Go.Proofs.Ytmafibbnojdpjaa.RecP
/-- the number of bytes -/
def val (l : List UInt8) : Nat := l.foldl (fun a b => a * 256 + b.toNat) 0
structure Wr where
  key : List UInt8
  val : List UInt8
  gone : Bool
def prevOk (lt : List UInt8 → List UInt8 → Bool) : Option (List UInt8) → List UInt8 → Bool
  | none, _ => true
  | some p, k => lt p k
/-- writes that may be: keys rising (lt: the order of keys), nothing too long -/
def risesFrom (lt : List UInt8 → List UInt8 → Bool) : Option (List UInt8) → List Wr → Bool
  | _, [] => true
  | prev, w :: r => !w.key.isEmpty && decide (w.key.length ≤ 400) && decide (w.val.length ≤ 4096) && (!w.gone || w.val.isEmpty) && prevOk lt prev w.key && risesFrom lt (some w.key) r
end Go.Proofs.Ytmafibbnojdpjaa.RecP
end
