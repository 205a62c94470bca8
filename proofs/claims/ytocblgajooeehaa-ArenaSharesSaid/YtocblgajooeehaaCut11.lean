/-
  A long run, part by part.
-/
import Derived.Test.YtocblgajooeehaaCutD2
namespace Go.Proofs.Ytocblgajooeehaa.Lit
open Go Go.Vabs Go.Vabs.Ph
set_option maxRecDepth 100000
set_option linter.unusedVariables false
theorem q114 : cutE (tabOf tab) 1000 124336 g113 (idsOf l114) = cutR (tabOf tab) 1000 124336 g113 82 ks114 (dropO 1 (opsOf (subC c34.code [1, 1, 1, 1, 1, 1, 0, 1, 0, 0, 1, 1, 0, 0, 1, 0]))) f114 3966 allV allV (objsOf l114) := by kernel_rfl
theorem q115 : isDone (stepsC (tabOf tab) 1000 70372 g114) = true := by kernel_rfl
end Go.Proofs.Ytocblgajooeehaa.Lit
