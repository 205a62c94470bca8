/-
  A long run, part by part.
-/
import Derived.Test.YtocblgajooeehaaCutD2
namespace Go.Proofs.Ytocblgajooeehaa.Lit
open Go Go.Vabs Go.Vabs.Ph
set_option maxRecDepth 100000
set_option linter.unusedVariables false
theorem q31 : cutE (tabOf tab) 1000 102324 g30 (idsOf l31) = cutR (tabOf tab) 1000 102324 g30 96 ks31 (dropO 1 (opsOf (subC c34.code [1, 1, 1, 1, 1, 1, 0, 1, 0, 0, 1, 1, 0, 0, 1, 0]))) f31 2931 allV allV (objsOf l31) := by kernel_rfl
theorem q32 : cutE (tabOf tab) 1000 105196 g31 (idsOf l32) = cutR (tabOf tab) 1000 105196 g31 94 ks32 (dropO 1 (opsOf (subC c34.code [1, 1, 1, 1, 1, 1, 0, 1, 0, 0, 1, 1, 0, 0, 1, 0]))) f32 3544 allV allV (objsOf l32) := by kernel_rfl
theorem q33 : isDone (stepsC (tabOf tab) 1000 126986 g32) = true := by kernel_rfl
theorem q34 (X0 : Int) : cutE (tabOf tab) 1000 26273 (h1 X0 (.ofNat 9)) (idsOf l34) = cutR (tabOf tab) 1000 26273 (h1 X0 (.ofNat 9)) 99 ks34 (dropO 0 (opsOf (subC c13.code [1, 1, 1, 0]))) f34 463 allV allV (objsOf l34) := by kernel_rfl
theorem q35 : cutE (tabOf tab) 1000 113470 g34 (idsOf l35) = cutR (tabOf tab) 1000 113470 g34 93 ks35 (dropO 1 (opsOf (subC c34.code [1, 1, 1, 1, 1, 1, 0, 1, 0, 0, 1, 1, 0, 0, 1, 0]))) f35 1134 allV allV (objsOf l35) := by kernel_rfl
theorem q36 : cutE (tabOf tab) 1000 104258 g35 (idsOf l36) = cutR (tabOf tab) 1000 104258 g35 94 ks36 (dropO 1 (opsOf (subC c34.code [1, 1, 1, 1, 1, 1, 0, 1, 0, 0, 1, 1, 0, 0, 1, 0]))) f36 1734 allV allV (objsOf l36) := by kernel_rfl
theorem q37 : cutE (tabOf tab) 1000 105742 g36 (idsOf l37) = cutR (tabOf tab) 1000 105742 g36 93 ks37 (dropO 1 (opsOf (subC c34.code [1, 1, 1, 1, 1, 1, 0, 1, 0, 0, 1, 1, 0, 0, 1, 0]))) f37 2339 allV allV (objsOf l37) := by kernel_rfl
theorem q38 : cutE (tabOf tab) 1000 104340 g37 (idsOf l38) = cutR (tabOf tab) 1000 104340 g37 95 ks38 (dropO 1 (opsOf (subC c34.code [1, 1, 1, 1, 1, 1, 0, 1, 0, 0, 1, 1, 0, 0, 1, 0]))) f38 2942 allV allV (objsOf l38) := by kernel_rfl
theorem q39 : cutE (tabOf tab) 1000 107276 g38 (idsOf l39) = cutR (tabOf tab) 1000 107276 g38 93 ks39 (dropO 1 (opsOf (subC c34.code [1, 1, 1, 1, 1, 1, 0, 1, 0, 0, 1, 1, 0, 0, 1, 0]))) f39 3555 allV allV (objsOf l39) := by kernel_rfl
theorem q40 : isDone (stepsC (tabOf tab) 1000 127992 g39) = true := by kernel_rfl
theorem q41 (X0 : Int) : cutE (tabOf tab) 1000 26296 (h1 X0 (.ofNat 10)) (idsOf l41) = cutR (tabOf tab) 1000 26296 (h1 X0 (.ofNat 10)) 99 ks41 (dropO 0 (opsOf (subC c13.code [1, 1, 1, 0]))) f41 465 allV allV (objsOf l41) := by kernel_rfl
end Go.Proofs.Ytocblgajooeehaa.Lit
