/-
  Shorter words for how a run stands at a cut.
-/
import Derived.Test.YtocblgajooeehaaVabsWb
namespace Go.Vabs
set_option linter.unusedVariables false
noncomputable section
/-- What is still to be done on the way down to a part of a function's code; ns: rounds left of the loops on that way. -/
def pathK : ACode → List Nat → List Nat → List Kt → List Kt
  | .seq a b, 0 :: p, ns, ks => pathK a p ns (.seq b :: ks)
  | .seq _ b, _ :: p, ns, ks => pathK b p ns ks
  | .cond _ a _, 0 :: p, ns, ks => pathK a p ns ks
  | .cond _ _ b, _ :: p, ns, ks => pathK b p ns ks
  | .block id a, _ :: p, ns, ks => pathK a p ns (.blk id :: ks)
  | .loop a, _ :: p, n :: ns, ks => pathK a p ns (.loop a n :: ks)
  | _, _, _, ks => ks
/-- One value in several slots. -/
def atV (v : V) : List Nat → List (Nat × V)
  | [] => []
  | n :: l => (n, v) :: atV v l
end
end Go.Vabs
