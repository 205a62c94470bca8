/-
  A long run, part by part.
-/
import Derived.Test.YtocblgajooeehaaCutD2
namespace Go.Proofs.Ytocblgajooeehaa.Lit
open Go Go.Vabs Go.Vabs.Ph
set_option maxRecDepth 100000
set_option linter.unusedVariables false
theorem q42 : cutE (tabOf tab) 1000 117084 g41 (idsOf l42) = cutR (tabOf tab) 1000 117084 g41 92 ks42 (dropO 1 (opsOf (subC c34.code [1, 1, 1, 1, 1, 1, 0, 1, 0, 0, 1, 1, 0, 0, 1, 0]))) f42 1145 allV allV (objsOf l42) := by kernel_rfl
theorem q43 : cutE (tabOf tab) 1000 106274 g42 (idsOf l43) = cutR (tabOf tab) 1000 106274 g42 93 ks43 (dropO 1 (opsOf (subC c34.code [1, 1, 1, 1, 1, 1, 0, 1, 0, 0, 1, 1, 0, 0, 1, 0]))) f43 1745 allV allV (objsOf l43) := by kernel_rfl
theorem q44 : cutE (tabOf tab) 1000 107790 g43 (idsOf l44) = cutR (tabOf tab) 1000 107790 g43 92 ks44 (dropO 1 (opsOf (subC c34.code [1, 1, 1, 1, 1, 1, 0, 1, 0, 0, 1, 1, 0, 0, 1, 0]))) f44 2350 allV allV (objsOf l44) := by kernel_rfl
theorem q45 : cutE (tabOf tab) 1000 106356 g44 (idsOf l45) = cutR (tabOf tab) 1000 106356 g44 94 ks45 (dropO 1 (opsOf (subC c34.code [1, 1, 1, 1, 1, 1, 0, 1, 0, 0, 1, 1, 0, 0, 1, 0]))) f45 2953 allV allV (objsOf l45) := by kernel_rfl
theorem q46 : cutE (tabOf tab) 1000 109356 g45 (idsOf l46) = cutR (tabOf tab) 1000 109356 g45 92 ks46 (dropO 1 (opsOf (subC c34.code [1, 1, 1, 1, 1, 1, 0, 1, 0, 0, 1, 1, 0, 0, 1, 0]))) f46 3566 allV allV (objsOf l46) := by kernel_rfl
theorem q47 : isDone (stepsC (tabOf tab) 1000 128955 g46) = true := by kernel_rfl
theorem q48 (X0 : Int) : cutE (tabOf tab) 1000 26319 (h1 X0 (.ofNat 11)) (idsOf l48) = cutR (tabOf tab) 1000 26319 (h1 X0 (.ofNat 11)) 99 ks48 (dropO 0 (opsOf (subC c13.code [1, 1, 1, 0]))) f48 467 allV allV (objsOf l48) := by kernel_rfl
theorem q49 : cutE (tabOf tab) 1000 120730 g48 (idsOf l49) = cutR (tabOf tab) 1000 120730 g48 91 ks49 (dropO 1 (opsOf (subC c34.code [1, 1, 1, 1, 1, 1, 0, 1, 0, 0, 1, 1, 0, 0, 1, 0]))) f49 1156 allV allV (objsOf l49) := by kernel_rfl
theorem q50 : cutE (tabOf tab) 1000 108290 g49 (idsOf l50) = cutR (tabOf tab) 1000 108290 g49 92 ks50 (dropO 1 (opsOf (subC c34.code [1, 1, 1, 1, 1, 1, 0, 1, 0, 0, 1, 1, 0, 0, 1, 0]))) f50 1756 allV allV (objsOf l50) := by kernel_rfl
theorem q51 : cutE (tabOf tab) 1000 109838 g50 (idsOf l51) = cutR (tabOf tab) 1000 109838 g50 91 ks51 (dropO 1 (opsOf (subC c34.code [1, 1, 1, 1, 1, 1, 0, 1, 0, 0, 1, 1, 0, 0, 1, 0]))) f51 2361 allV allV (objsOf l51) := by kernel_rfl
end Go.Proofs.Ytocblgajooeehaa.Lit
