/-
  A long run, part by part.
-/
import Derived.Test.YtocblgajooeehaaCutD1
namespace Go.Proofs.Ytocblgajooeehaa.Lit
open Go Go.Vabs Go.Vabs.Ph
set_option maxRecDepth 100000
set_option linter.unusedVariables false
theorem q114 : isDone (stepsC (tabOf tab) 1000 46872 (g105 8)) = true := by kernel_rfl
theorem q115 : isDone (stepsC (tabOf tab) 1000 46872 (g105 9)) = true := by kernel_rfl
theorem q116 : isDone (stepsC (tabOf tab) 1000 46872 (g105 10)) = true := by kernel_rfl
theorem q117 : isDone (stepsC (tabOf tab) 1000 46872 (g105 11)) = true := by kernel_rfl
theorem q118 : isDone (stepsC (tabOf tab) 1000 46872 (g105 12)) = true := by kernel_rfl
theorem q119 (X0 : Int) (X1 : Int) : cutE (tabOf tab) 1000 6 (h1 X0 X1 (.ofNat 13)) (idsOf l119) = cutR (tabOf tab) 1000 6 (h1 X0 X1 (.ofNat 13)) 100 ks119 (dropO 0 (opsOf (subC c6.code [1, 1, 0]))) (f119 X0 X1) 0 allV allV (objsOf l119) := by kernel_rfl
theorem q120 (X0 : Int) (X1 : Int) (A0 : Nat) : cutE (tabOf tab) 1000 61685 (h119 X0 X1 (.ofNat A0)) (idsOf l120) = cutR (tabOf tab) 1000 61685 (h119 X0 X1 (.ofNat A0)) 99 (ks120 A0) (dropO 0 (opsOf (subC c13.code [1, 1, 1, 0]))) f120 1247 allV allV (objsOf l120) := by kernel_rfl
theorem q121 : isDone (stepsC (tabOf tab) 1000 46872 (g120 0)) = true := by kernel_rfl
theorem q122 : isDone (stepsC (tabOf tab) 1000 47327 (g120 1)) = true := by kernel_rfl
theorem q123 : isDone (stepsC (tabOf tab) 1000 47292 (g120 2)) = true := by kernel_rfl
theorem q124 : isDone (stepsC (tabOf tab) 1000 47257 (g120 3)) = true := by kernel_rfl
theorem q125 : isDone (stepsC (tabOf tab) 1000 47222 (g120 4)) = true := by kernel_rfl
theorem q126 : isDone (stepsC (tabOf tab) 1000 47187 (g120 5)) = true := by kernel_rfl
theorem q127 : isDone (stepsC (tabOf tab) 1000 47152 (g120 6)) = true := by kernel_rfl
theorem q128 : isDone (stepsC (tabOf tab) 1000 47117 (g120 7)) = true := by kernel_rfl
theorem q129 : isDone (stepsC (tabOf tab) 1000 47082 (g120 8)) = true := by kernel_rfl
theorem q130 : isDone (stepsC (tabOf tab) 1000 47047 (g120 9)) = true := by kernel_rfl
theorem q131 : isDone (stepsC (tabOf tab) 1000 47012 (g120 10)) = true := by kernel_rfl
theorem q132 : isDone (stepsC (tabOf tab) 1000 46977 (g120 11)) = true := by kernel_rfl
theorem q133 : isDone (stepsC (tabOf tab) 1000 46942 (g120 12)) = true := by kernel_rfl
theorem q134 : isDone (stepsC (tabOf tab) 1000 46907 (g120 13)) = true := by kernel_rfl
theorem q135 (X0 : Int) (X1 : Int) : cutE (tabOf tab) 1000 6 (h1 X0 X1 (.ofNat 14)) (idsOf l135) = cutR (tabOf tab) 1000 6 (h1 X0 X1 (.ofNat 14)) 100 ks135 (dropO 0 (opsOf (subC c6.code [1, 1, 0]))) (f135 X0 X1) 0 allV allV (objsOf l135) := by kernel_rfl
theorem q136 (X0 : Int) (X1 : Int) (A0 : Nat) : cutE (tabOf tab) 1000 64342 (h135 X0 X1 (.ofNat A0)) (idsOf l136) = cutR (tabOf tab) 1000 64342 (h135 X0 X1 (.ofNat A0)) 99 (ks136 A0) (dropO 0 (opsOf (subC c13.code [1, 1, 1, 0]))) f136 1307 allV allV (objsOf l136) := by kernel_rfl
theorem q137 : isDone (stepsC (tabOf tab) 1000 46872 (g136 0)) = true := by kernel_rfl
theorem q138 : isDone (stepsC (tabOf tab) 1000 47327 (g136 1)) = true := by kernel_rfl
end Go.Proofs.Ytocblgajooeehaa.Lit
