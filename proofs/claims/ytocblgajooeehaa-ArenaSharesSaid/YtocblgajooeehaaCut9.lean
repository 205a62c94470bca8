/-
  A long run, part by part.
-/
import Derived.Test.YtocblgajooeehaaCutD2
namespace Go.Proofs.Ytocblgajooeehaa.Lit
open Go Go.Vabs Go.Vabs.Ph
set_option maxRecDepth 100000
set_option linter.unusedVariables false
theorem q94 : cutE (tabOf tab) 1000 120304 g93 (idsOf l94) = cutR (tabOf tab) 1000 120304 g93 84 ks94 (dropO 1 (opsOf (subC c34.code [1, 1, 1, 1, 1, 1, 0, 1, 0, 0, 1, 1, 0, 0, 1, 0]))) f94 1523 allV allV (objsOf l94) := by kernel_rfl
theorem q95 : cutE (tabOf tab) 1000 122208 g94 (idsOf l95) = cutR (tabOf tab) 1000 122208 g94 84 ks95 (dropO 1 (opsOf (subC c34.code [1, 1, 1, 1, 1, 1, 0, 1, 0, 0, 1, 1, 0, 0, 1, 0]))) f95 2131 allV allV (objsOf l95) := by kernel_rfl
theorem q96 : cutE (tabOf tab) 1000 120304 g95 (idsOf l96) = cutR (tabOf tab) 1000 120304 g95 84 ks96 (dropO 1 (opsOf (subC c34.code [1, 1, 1, 1, 1, 1, 0, 1, 0, 0, 1, 1, 0, 0, 1, 0]))) f96 2728 allV allV (objsOf l96) := by kernel_rfl
theorem q97 : cutE (tabOf tab) 1000 124080 g96 (idsOf l97) = cutR (tabOf tab) 1000 124080 g96 84 ks97 (dropO 1 (opsOf (subC c34.code [1, 1, 1, 1, 1, 1, 0, 1, 0, 0, 1, 1, 0, 0, 1, 0]))) f97 3347 allV allV (objsOf l97) := by kernel_rfl
theorem q98 : cutE (tabOf tab) 1000 120304 g97 (idsOf l98) = cutR (tabOf tab) 1000 120304 g97 84 ks98 (dropO 1 (opsOf (subC c34.code [1, 1, 1, 1, 1, 1, 0, 1, 0, 0, 1, 1, 0, 0, 1, 0]))) f98 3944 allV allV (objsOf l98) := by kernel_rfl
theorem q99 : isDone (stepsC (tabOf tab) 1000 72064 g98) = true := by kernel_rfl
theorem q100 (X0 : Int) : cutE (tabOf tab) 1000 26480 (h1 X0 (.ofNat 18)) (idsOf l100) = cutR (tabOf tab) 1000 26480 (h1 X0 (.ofNat 18)) 99 ks100 (dropO 0 (opsOf (subC c13.code [1, 1, 1, 0]))) f100 481 allV allV (objsOf l100) := by kernel_rfl
theorem q101 : cutE (tabOf tab) 1000 86890 g100 (idsOf l101) = cutR (tabOf tab) 1000 86890 g100 83 ks101 (dropO 1 (opsOf (subC c34.code [1, 1, 1, 1, 1, 1, 0, 1, 0, 0, 1, 1, 0, 0, 1, 0]))) f101 937 allV allV (objsOf l101) := by kernel_rfl
theorem q102 : cutE (tabOf tab) 1000 122320 g101 (idsOf l102) = cutR (tabOf tab) 1000 122320 g101 83 ks102 (dropO 1 (opsOf (subC c34.code [1, 1, 1, 1, 1, 1, 0, 1, 0, 0, 1, 1, 0, 0, 1, 0]))) f102 1534 allV allV (objsOf l102) := by kernel_rfl
theorem q103 : cutE (tabOf tab) 1000 124256 g102 (idsOf l103) = cutR (tabOf tab) 1000 124256 g102 83 ks103 (dropO 1 (opsOf (subC c34.code [1, 1, 1, 1, 1, 1, 0, 1, 0, 0, 1, 1, 0, 0, 1, 0]))) f103 2142 allV allV (objsOf l103) := by kernel_rfl
end Go.Proofs.Ytocblgajooeehaa.Lit
