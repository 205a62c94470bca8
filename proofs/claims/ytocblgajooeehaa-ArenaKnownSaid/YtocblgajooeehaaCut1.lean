/-
  A long run, part by part.
-/
import Derived.Test.YtocblgajooeehaaCutD2
namespace Go.Proofs.Ytocblgajooeehaa.Lit
open Go Go.Vabs
set_option maxRecDepth 100000
set_option linter.unusedVariables false
theorem q1 : cutE (tabOf tab) 20000 20531 g0 (idsOf l1) = cutR (tabOf tab) 20000 20531 g0 100 ks1 (dropO 18 (opsOf (subC c3.code [1, 1, 0]))) f1 1425 allV allV (objsOf l1) := by kernel_rfl
theorem q2 : cutE (tabOf tab) 20000 25158 g1 (idsOf l2) = cutR (tabOf tab) 20000 25158 g1 100 ks2 (dropO 24 (opsOf (subC c3.code [1, 1, 0]))) f2 3220 allV allV (objsOf l2) := by kernel_rfl
theorem q3 : cutE (tabOf tab) 20000 47620 g2 (idsOf l3) = cutR (tabOf tab) 20000 47620 g2 98 ks3 (dropO 5 (opsOf (subC c23.code [1, 1, 1, 1, 0, 1, 0, 0, 1, 0, 0]))) f3 3737 allV allV (objsOf l3) := by kernel_rfl
theorem q4 : cutE (tabOf tab) 20000 37223 g3 (idsOf l4) = cutR (tabOf tab) 20000 37223 g3 98 ks4 (dropO 5 (opsOf (subC c23.code [1, 1, 1, 1, 0, 1, 0, 0, 1, 0, 0]))) f4 4137 allV allV (objsOf l4) := by kernel_rfl
theorem q5 : cutE (tabOf tab) 20000 32276 g4 (idsOf l5) = cutR (tabOf tab) 20000 32276 g4 93 ks5 (dropO 3 (opsOf (subC c25.code [1, 1, 1, 1, 1, 1, 1, 0]))) f5 4716 allV allV (objsOf l5) := by kernel_rfl
end Go.Proofs.Ytocblgajooeehaa.Lit
