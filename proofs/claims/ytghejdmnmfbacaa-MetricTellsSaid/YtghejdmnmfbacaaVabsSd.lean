/-
  A font whose tables stand anywhere: what is read of it (no program in sight).
-/
import Derived.Test.YtghejdmnmfbacaaVabsSc
namespace Go.Vabs.Sd
open Go.Vabs.Pk Go.Vabs.Sb Go.Vabs.Sc
set_option linter.unusedVariables false
def tagI (i : Nat) : List Nat := [84, 65, 66, 48 + i]
end Go.Vabs.Sd
