/-
  A long run, part by part.
-/
import Derived.Test.YtocblgajooeehaaCutD2
namespace Go.Proofs.Ytocblgajooeehaa.Lit
open Go Go.Vabs Go.Vabs.Ph
set_option maxRecDepth 100000
set_option linter.unusedVariables false
theorem q52 : cutE (tabOf tab) 1000 108372 g51 (idsOf l52) = cutR (tabOf tab) 1000 108372 g51 93 ks52 (dropO 1 (opsOf (subC c34.code [1, 1, 1, 1, 1, 1, 0, 1, 0, 0, 1, 1, 0, 0, 1, 0]))) f52 2964 allV allV (objsOf l52) := by kernel_rfl
theorem q53 : cutE (tabOf tab) 1000 111436 g52 (idsOf l53) = cutR (tabOf tab) 1000 111436 g52 91 ks53 (dropO 1 (opsOf (subC c34.code [1, 1, 1, 1, 1, 1, 0, 1, 0, 0, 1, 1, 0, 0, 1, 0]))) f53 3577 allV allV (objsOf l53) := by kernel_rfl
theorem q54 : isDone (stepsC (tabOf tab) 1000 129597 g53) = true := by kernel_rfl
theorem q55 (X0 : Int) : cutE (tabOf tab) 1000 26342 (h1 X0 (.ofNat 12)) (idsOf l55) = cutR (tabOf tab) 1000 26342 (h1 X0 (.ofNat 12)) 99 ks55 (dropO 0 (opsOf (subC c13.code [1, 1, 1, 0]))) f55 469 allV allV (objsOf l55) := by kernel_rfl
theorem q56 : cutE (tabOf tab) 1000 124408 g55 (idsOf l56) = cutR (tabOf tab) 1000 124408 g55 90 ks56 (dropO 1 (opsOf (subC c34.code [1, 1, 1, 1, 1, 1, 0, 1, 0, 0, 1, 1, 0, 0, 1, 0]))) f56 1167 allV allV (objsOf l56) := by kernel_rfl
theorem q57 : cutE (tabOf tab) 1000 110306 g56 (idsOf l57) = cutR (tabOf tab) 1000 110306 g56 91 ks57 (dropO 1 (opsOf (subC c34.code [1, 1, 1, 1, 1, 1, 0, 1, 0, 0, 1, 1, 0, 0, 1, 0]))) f57 1767 allV allV (objsOf l57) := by kernel_rfl
theorem q58 : cutE (tabOf tab) 1000 111886 g57 (idsOf l58) = cutR (tabOf tab) 1000 111886 g57 90 ks58 (dropO 1 (opsOf (subC c34.code [1, 1, 1, 1, 1, 1, 0, 1, 0, 0, 1, 1, 0, 0, 1, 0]))) f58 2372 allV allV (objsOf l58) := by kernel_rfl
theorem q59 : cutE (tabOf tab) 1000 110388 g58 (idsOf l59) = cutR (tabOf tab) 1000 110388 g58 92 ks59 (dropO 1 (opsOf (subC c34.code [1, 1, 1, 1, 1, 1, 0, 1, 0, 0, 1, 1, 0, 0, 1, 0]))) f59 2975 allV allV (objsOf l59) := by kernel_rfl
theorem q60 : cutE (tabOf tab) 1000 113516 g59 (idsOf l60) = cutR (tabOf tab) 1000 113516 g59 90 ks60 (dropO 1 (opsOf (subC c34.code [1, 1, 1, 1, 1, 1, 0, 1, 0, 0, 1, 1, 0, 0, 1, 0]))) f60 3588 allV allV (objsOf l60) := by kernel_rfl
theorem q61 : isDone (stepsC (tabOf tab) 1000 130207 g60) = true := by kernel_rfl
end Go.Proofs.Ytocblgajooeehaa.Lit
