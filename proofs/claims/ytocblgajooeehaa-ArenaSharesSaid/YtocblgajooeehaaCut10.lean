/-
  A long run, part by part.
-/
import Derived.Test.YtocblgajooeehaaCutD2
namespace Go.Proofs.Ytocblgajooeehaa.Lit
open Go Go.Vabs Go.Vabs.Ph
set_option maxRecDepth 100000
set_option linter.unusedVariables false
theorem q104 : cutE (tabOf tab) 1000 122320 g103 (idsOf l104) = cutR (tabOf tab) 1000 122320 g103 83 ks104 (dropO 1 (opsOf (subC c34.code [1, 1, 1, 1, 1, 1, 0, 1, 0, 0, 1, 1, 0, 0, 1, 0]))) f104 2739 allV allV (objsOf l104) := by kernel_rfl
theorem q105 : cutE (tabOf tab) 1000 126160 g104 (idsOf l105) = cutR (tabOf tab) 1000 126160 g104 83 ks105 (dropO 1 (opsOf (subC c34.code [1, 1, 1, 1, 1, 1, 0, 1, 0, 0, 1, 1, 0, 0, 1, 0]))) f105 3358 allV allV (objsOf l105) := by kernel_rfl
theorem q106 : cutE (tabOf tab) 1000 122320 g105 (idsOf l106) = cutR (tabOf tab) 1000 122320 g105 83 ks106 (dropO 1 (opsOf (subC c34.code [1, 1, 1, 1, 1, 1, 0, 1, 0, 0, 1, 1, 0, 0, 1, 0]))) f106 3955 allV allV (objsOf l106) := by kernel_rfl
theorem q107 : isDone (stepsC (tabOf tab) 1000 71234 g106) = true := by kernel_rfl
theorem q108 (X0 : Int) : cutE (tabOf tab) 1000 26503 (h1 X0 (.ofNat 19)) (idsOf l108) = cutR (tabOf tab) 1000 26503 (h1 X0 (.ofNat 19)) 99 ks108 (dropO 0 (opsOf (subC c13.code [1, 1, 1, 0]))) f108 483 allV allV (objsOf l108) := by kernel_rfl
theorem q109 : cutE (tabOf tab) 1000 89800 g108 (idsOf l109) = cutR (tabOf tab) 1000 89800 g108 82 ks109 (dropO 1 (opsOf (subC c34.code [1, 1, 1, 1, 1, 1, 0, 1, 0, 0, 1, 1, 0, 0, 1, 0]))) f109 948 allV allV (objsOf l109) := by kernel_rfl
theorem q110 : cutE (tabOf tab) 1000 124336 g109 (idsOf l110) = cutR (tabOf tab) 1000 124336 g109 82 ks110 (dropO 1 (opsOf (subC c34.code [1, 1, 1, 1, 1, 1, 0, 1, 0, 0, 1, 1, 0, 0, 1, 0]))) f110 1545 allV allV (objsOf l110) := by kernel_rfl
theorem q111 : cutE (tabOf tab) 1000 126304 g110 (idsOf l111) = cutR (tabOf tab) 1000 126304 g110 82 ks111 (dropO 1 (opsOf (subC c34.code [1, 1, 1, 1, 1, 1, 0, 1, 0, 0, 1, 1, 0, 0, 1, 0]))) f111 2153 allV allV (objsOf l111) := by kernel_rfl
theorem q112 : cutE (tabOf tab) 1000 124336 g111 (idsOf l112) = cutR (tabOf tab) 1000 124336 g111 82 ks112 (dropO 1 (opsOf (subC c34.code [1, 1, 1, 1, 1, 1, 0, 1, 0, 0, 1, 1, 0, 0, 1, 0]))) f112 2750 allV allV (objsOf l112) := by kernel_rfl
theorem q113 : cutE (tabOf tab) 1000 128240 g112 (idsOf l113) = cutR (tabOf tab) 1000 128240 g112 82 ks113 (dropO 1 (opsOf (subC c34.code [1, 1, 1, 1, 1, 1, 0, 1, 0, 0, 1, 1, 0, 0, 1, 0]))) f113 3369 allV allV (objsOf l113) := by kernel_rfl
end Go.Proofs.Ytocblgajooeehaa.Lit
