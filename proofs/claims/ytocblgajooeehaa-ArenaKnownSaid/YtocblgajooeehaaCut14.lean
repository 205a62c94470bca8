/-
  A long run, part by part.
-/
import Derived.Test.YtocblgajooeehaaCutD2
namespace Go.Proofs.Ytocblgajooeehaa.Lit
open Go Go.Vabs
set_option maxRecDepth 100000
set_option linter.unusedVariables false
theorem q54 : cutE (tabOf tab) 20000 93002 g53 (idsOf l54) = cutR (tabOf tab) 20000 93002 g53 95 ks54 (dropO 0 (opsOf (subC c34.code [1, 1, 1, 1, 1, 1, 0, 1, 0, 0, 1, 1, 0, 0, 1, 0]))) f54 40946 allV allV (objsOf l54) := by kernel_rfl
theorem q55 : cutE (tabOf tab) 20000 66494 g54 (idsOf l55) = cutR (tabOf tab) 20000 66494 g54 100 ks55 (dropO 28 (opsOf (subC c3.code [1, 1, 1, 1, 1, 1, 1, 1, 1, 1, 1, 1, 0]))) f55 41366 allV allV (objsOf l55) := by kernel_rfl
theorem q56 : cutE (tabOf tab) 20000 110349 g55 (idsOf l56) = cutR (tabOf tab) 20000 110349 g55 95 ks56 (dropO 0 (opsOf (subC c34.code [1, 1, 1, 1, 1, 1, 0, 1, 0, 0, 1, 1, 0, 0, 1, 0]))) f56 42353 allV allV (objsOf l56) := by kernel_rfl
theorem q57 : cutE (tabOf tab) 20000 93002 g56 (idsOf l57) = cutR (tabOf tab) 20000 93002 g56 95 ks57 (dropO 0 (opsOf (subC c34.code [1, 1, 1, 1, 1, 1, 0, 1, 0, 0, 1, 1, 0, 0, 1, 0]))) f57 42937 allV allV (objsOf l57) := by kernel_rfl
end Go.Proofs.Ytocblgajooeehaa.Lit
