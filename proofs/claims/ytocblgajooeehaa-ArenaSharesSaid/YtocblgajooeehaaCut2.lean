/-
  A long run, part by part.
-/
import Derived.Test.YtocblgajooeehaaCutD2
namespace Go.Proofs.Ytocblgajooeehaa.Lit
open Go Go.Vabs Go.Vabs.Ph
set_option maxRecDepth 100000
set_option linter.unusedVariables false
theorem q21 : cutE (tabOf tab) 1000 106338 g20 (idsOf l21) = cutR (tabOf tab) 1000 106338 g20 95 ks21 (dropO 1 (opsOf (subC c34.code [1, 1, 1, 1, 1, 1, 0, 1, 0, 0, 1, 1, 0, 0, 1, 0]))) f21 1112 allV allV (objsOf l21) := by kernel_rfl
theorem q22 : cutE (tabOf tab) 1000 100226 g21 (idsOf l22) = cutR (tabOf tab) 1000 100226 g21 96 ks22 (dropO 1 (opsOf (subC c34.code [1, 1, 1, 1, 1, 1, 0, 1, 0, 0, 1, 1, 0, 0, 1, 0]))) f22 1712 allV allV (objsOf l22) := by kernel_rfl
theorem q23 : cutE (tabOf tab) 1000 101646 g22 (idsOf l23) = cutR (tabOf tab) 1000 101646 g22 95 ks23 (dropO 1 (opsOf (subC c34.code [1, 1, 1, 1, 1, 1, 0, 1, 0, 0, 1, 1, 0, 0, 1, 0]))) f23 2317 allV allV (objsOf l23) := by kernel_rfl
theorem q24 : cutE (tabOf tab) 1000 100308 g23 (idsOf l24) = cutR (tabOf tab) 1000 100308 g23 97 ks24 (dropO 1 (opsOf (subC c34.code [1, 1, 1, 1, 1, 1, 0, 1, 0, 0, 1, 1, 0, 0, 1, 0]))) f24 2920 allV allV (objsOf l24) := by kernel_rfl
theorem q25 : cutE (tabOf tab) 1000 103116 g24 (idsOf l25) = cutR (tabOf tab) 1000 103116 g24 95 ks25 (dropO 1 (opsOf (subC c34.code [1, 1, 1, 1, 1, 1, 0, 1, 0, 0, 1, 1, 0, 0, 1, 0]))) f25 3533 allV allV (objsOf l25) := by kernel_rfl
theorem q26 : isDone (stepsC (tabOf tab) 1000 126152 g25) = true := by kernel_rfl
theorem q27 (X0 : Int) : cutE (tabOf tab) 1000 26250 (h1 X0 (.ofNat 8)) (idsOf l27) = cutR (tabOf tab) 1000 26250 (h1 X0 (.ofNat 8)) 99 ks27 (dropO 0 (opsOf (subC c13.code [1, 1, 1, 0]))) f27 461 allV allV (objsOf l27) := by kernel_rfl
theorem q28 : cutE (tabOf tab) 1000 109888 g27 (idsOf l28) = cutR (tabOf tab) 1000 109888 g27 94 ks28 (dropO 1 (opsOf (subC c34.code [1, 1, 1, 1, 1, 1, 0, 1, 0, 0, 1, 1, 0, 0, 1, 0]))) f28 1123 allV allV (objsOf l28) := by kernel_rfl
theorem q29 : cutE (tabOf tab) 1000 102242 g28 (idsOf l29) = cutR (tabOf tab) 1000 102242 g28 95 ks29 (dropO 1 (opsOf (subC c34.code [1, 1, 1, 1, 1, 1, 0, 1, 0, 0, 1, 1, 0, 0, 1, 0]))) f29 1723 allV allV (objsOf l29) := by kernel_rfl
theorem q30 : cutE (tabOf tab) 1000 103694 g29 (idsOf l30) = cutR (tabOf tab) 1000 103694 g29 94 ks30 (dropO 1 (opsOf (subC c34.code [1, 1, 1, 1, 1, 1, 0, 1, 0, 0, 1, 1, 0, 0, 1, 0]))) f30 2328 allV allV (objsOf l30) := by kernel_rfl
end Go.Proofs.Ytocblgajooeehaa.Lit
