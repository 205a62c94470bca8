/-
  A long run, part by part.
-/
import Derived.Test.YtocblgajooeehaaCutD2
namespace Go.Proofs.Ytocblgajooeehaa.Lit
open Go Go.Vabs Go.Vabs.Ph
set_option maxRecDepth 100000
set_option linter.unusedVariables false
theorem q72 : cutE (tabOf tab) 1000 115982 g71 (idsOf l72) = cutR (tabOf tab) 1000 115982 g71 88 ks72 (dropO 1 (opsOf (subC c34.code [1, 1, 1, 1, 1, 1, 0, 1, 0, 0, 1, 1, 0, 0, 1, 0]))) f72 2394 allV allV (objsOf l72) := by kernel_rfl
theorem q73 : cutE (tabOf tab) 1000 114420 g72 (idsOf l73) = cutR (tabOf tab) 1000 114420 g72 90 ks73 (dropO 1 (opsOf (subC c34.code [1, 1, 1, 1, 1, 1, 0, 1, 0, 0, 1, 1, 0, 0, 1, 0]))) f73 2997 allV allV (objsOf l73) := by kernel_rfl
theorem q74 : cutE (tabOf tab) 1000 117676 g73 (idsOf l74) = cutR (tabOf tab) 1000 117676 g73 88 ks74 (dropO 1 (opsOf (subC c34.code [1, 1, 1, 1, 1, 1, 0, 1, 0, 0, 1, 1, 0, 0, 1, 0]))) f74 3610 allV allV (objsOf l74) := by kernel_rfl
theorem q75 : isDone (stepsC (tabOf tab) 1000 131643 g74) = true := by kernel_rfl
theorem q76 (X0 : Int) : cutE (tabOf tab) 1000 26411 (h1 X0 (.ofNat 15)) (idsOf l76) = cutR (tabOf tab) 1000 26411 (h1 X0 (.ofNat 15)) 99 ks76 (dropO 0 (opsOf (subC c13.code [1, 1, 1, 0]))) f76 475 allV allV (objsOf l76) := by kernel_rfl
theorem q77 : cutE (tabOf tab) 1000 107822 g76 (idsOf l77) = cutR (tabOf tab) 1000 107822 g76 85 ks77 (dropO 1 (opsOf (subC c34.code [1, 1, 1, 1, 1, 1, 0, 1, 0, 0, 1, 1, 0, 0, 1, 0]))) f77 1053 allV allV (objsOf l77) := by kernel_rfl
theorem q78 : cutE (tabOf tab) 1000 86802 g77 (idsOf l78) = cutR (tabOf tab) 1000 86802 g77 86 ks78 (dropO 1 (opsOf (subC c34.code [1, 1, 1, 1, 1, 1, 0, 1, 0, 0, 1, 1, 0, 0, 1, 0]))) f78 1501 allV allV (objsOf l78) := by kernel_rfl
theorem q79 : cutE (tabOf tab) 1000 118112 g78 (idsOf l79) = cutR (tabOf tab) 1000 118112 g78 86 ks79 (dropO 1 (opsOf (subC c34.code [1, 1, 1, 1, 1, 1, 0, 1, 0, 0, 1, 1, 0, 0, 1, 0]))) f79 2109 allV allV (objsOf l79) := by kernel_rfl
theorem q80 : cutE (tabOf tab) 1000 116272 g79 (idsOf l80) = cutR (tabOf tab) 1000 116272 g79 86 ks80 (dropO 1 (opsOf (subC c34.code [1, 1, 1, 1, 1, 1, 0, 1, 0, 0, 1, 1, 0, 0, 1, 0]))) f80 2706 allV allV (objsOf l80) := by kernel_rfl
theorem q81 : cutE (tabOf tab) 1000 119920 g80 (idsOf l81) = cutR (tabOf tab) 1000 119920 g80 86 ks81 (dropO 1 (opsOf (subC c34.code [1, 1, 1, 1, 1, 1, 0, 1, 0, 0, 1, 1, 0, 0, 1, 0]))) f81 3325 allV allV (objsOf l81) := by kernel_rfl
end Go.Proofs.Ytocblgajooeehaa.Lit
