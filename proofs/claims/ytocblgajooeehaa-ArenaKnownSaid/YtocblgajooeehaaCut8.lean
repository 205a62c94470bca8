/-
  A long run, part by part.
-/
import Derived.Test.YtocblgajooeehaaCutD2
namespace Go.Proofs.Ytocblgajooeehaa.Lit
open Go Go.Vabs
set_option maxRecDepth 100000
set_option linter.unusedVariables false
theorem q30 : cutE (tabOf tab) 20000 23682 g29 (idsOf l30) = cutR (tabOf tab) 20000 23682 g29 98 ks30 (dropO 5 (opsOf (subC c25.code [1, 1, 1, 1, 1, 1, 0, 1, 0, 1, 1, 1, 1, 0, 1, 0, 0, 1, 0, 0, 0]))) f30 24891 allV allV (objsOf l30) := by kernel_rfl
theorem q31 : cutE (tabOf tab) 20000 25278 g30 (idsOf l31) = cutR (tabOf tab) 20000 25278 g30 97 ks31 (dropO 4 (opsOf (subC c25.code [1, 1, 1, 1, 1, 1, 0, 1, 0, 1, 1, 1, 1, 0, 1, 0, 0, 1, 0, 0, 0]))) f31 25531 allV allV (objsOf l31) := by kernel_rfl
theorem q32 : cutE (tabOf tab) 20000 24556 g31 (idsOf l32) = cutR (tabOf tab) 20000 24556 g31 97 ks32 (dropO 4 (opsOf (subC c25.code [1, 1, 1, 1, 1, 1, 0, 1, 0, 1, 1, 1, 1, 0, 1, 0, 0, 1, 0, 0, 0]))) f32 26147 allV allV (objsOf l32) := by kernel_rfl
theorem q33 : cutE (tabOf tab) 20000 23679 g32 (idsOf l33) = cutR (tabOf tab) 20000 23679 g32 97 ks33 (dropO 4 (opsOf (subC c25.code [1, 1, 1, 1, 1, 1, 0, 1, 0, 1, 1, 1, 1, 0, 1, 0, 0, 1, 0, 0, 0]))) f33 26741 allV allV (objsOf l33) := by kernel_rfl
end Go.Proofs.Ytocblgajooeehaa.Lit
