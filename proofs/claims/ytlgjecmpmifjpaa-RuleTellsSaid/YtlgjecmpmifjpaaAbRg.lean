/-
  The regions of a code that draw their order.
-/
import Derived.Test.YtlgjecmpmifjpaaAbA
namespace Go.Ab

/-- The regions of a code that draw their order. -/
def regs : Code → List (Array Oper)
  | .region _ ops true => [ops]
  | .seq a b => regs a ++ regs b
  | .cond _ a b => regs a ++ regs b
  | .block _ c => regs c
  | .loop c => regs c
  | .rangeFunc _ _ a b => regs a ++ regs b
  | _ => []
def regsF (fn : Func) : List (Bool × List (Nat × Nat)) := match fn.body with
  | some c => (regs c).map fun o => (orderB o, freeM o)
  | none => []


end Go.Ab
