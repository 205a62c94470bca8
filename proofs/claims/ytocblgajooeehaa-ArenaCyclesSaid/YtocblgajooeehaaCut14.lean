/-
  A long run, part by part.
-/
import Derived.Test.YtocblgajooeehaaCutD1
namespace Go.Proofs.Ytocblgajooeehaa.Lit
open Go Go.Vabs Go.Vabs.Ph
set_option maxRecDepth 100000
set_option linter.unusedVariables false
theorem q456 : isDone (stepsC (tabOf tab) 1000 49153 (g450 5)) = true := by kernel_rfl
theorem q457 : isDone (stepsC (tabOf tab) 1000 48625 (g450 6)) = true := by kernel_rfl
theorem q458 : isDone (stepsC (tabOf tab) 1000 44076 (g450 7)) = true := by kernel_rfl
theorem q459 : isDone (stepsC (tabOf tab) 1000 39620 (g450 8)) = true := by kernel_rfl
theorem q460 : isDone (stepsC (tabOf tab) 1000 35257 (g450 9)) = true := by kernel_rfl
theorem q461 : isDone (stepsC (tabOf tab) 1000 30987 (g450 10)) = true := by kernel_rfl
theorem q462 : isDone (stepsC (tabOf tab) 1000 26810 (g450 11)) = true := by kernel_rfl
theorem q463 : isDone (stepsC (tabOf tab) 1000 22726 (g450 12)) = true := by kernel_rfl
theorem q464 : isDone (stepsC (tabOf tab) 1000 18735 (g450 13)) = true := by kernel_rfl
theorem q465 : isDone (stepsC (tabOf tab) 1000 14837 (g450 14)) = true := by kernel_rfl
theorem q466 : isDone (stepsC (tabOf tab) 1000 11032 (g450 15)) = true := by kernel_rfl
theorem q467 : isDone (stepsC (tabOf tab) 1000 7320 (g450 16)) = true := by kernel_rfl
theorem q468 : isDone (stepsC (tabOf tab) 1000 3701 (g450 17)) = true := by kernel_rfl
theorem q469 (X0 : Int) (X1 : Int) : cutE (tabOf tab) 1000 6 (h258 X0 X1 (.ofNat 18)) (idsOf l469) = cutR (tabOf tab) 1000 6 (h258 X0 X1 (.ofNat 18)) 100 ks469 (dropO 0 (opsOf (subC c6.code [1, 1, 0]))) (f469 X0 X1) 0 allV allV (objsOf l469) := by kernel_rfl
theorem q470 (X0 : Int) (X1 : Int) (A0 : Nat) : cutE (tabOf tab) 1000 60882 (h469 X0 X1 (.ofNat A0)) (idsOf l470) = cutR (tabOf tab) 1000 60882 (h469 X0 X1 (.ofNat A0)) 100 ks470 (dropO 2 (opsOf (subC c6.code [1, 1, 1, 1, 1, 0]))) (f470 A0) 1303 allV allV (objsOf l470) := by kernel_rfl
theorem q471 (A0 : Nat) : cutE (tabOf tab) 1000 13010 (g470 A0) (idsOf l471) = cutR (tabOf tab) 1000 13010 (g470 A0) 99 (ks471 A0) (dropO 0 (opsOf (subC c13.code [1, 1, 1, 0]))) f471 1523 allV allV (objsOf l471) := by kernel_rfl
theorem q472 : isDone (stepsC (tabOf tab) 1000 46878 (g471 0)) = true := by kernel_rfl
theorem q473 : isDone (stepsC (tabOf tab) 1000 47333 (g471 1)) = true := by kernel_rfl
theorem q474 : isDone (stepsC (tabOf tab) 1000 47788 (g471 2)) = true := by kernel_rfl
theorem q475 : isDone (stepsC (tabOf tab) 1000 48243 (g471 3)) = true := by kernel_rfl
theorem q476 : isDone (stepsC (tabOf tab) 1000 48698 (g471 4)) = true := by kernel_rfl
theorem q477 : isDone (stepsC (tabOf tab) 1000 49153 (g471 5)) = true := by kernel_rfl
theorem q478 : isDone (stepsC (tabOf tab) 1000 49608 (g471 6)) = true := by kernel_rfl
theorem q479 : isDone (stepsC (tabOf tab) 1000 49045 (g471 7)) = true := by kernel_rfl
theorem q480 : isDone (stepsC (tabOf tab) 1000 44461 (g471 8)) = true := by kernel_rfl
theorem q481 : isDone (stepsC (tabOf tab) 1000 39970 (g471 9)) = true := by kernel_rfl
theorem q482 : isDone (stepsC (tabOf tab) 1000 35572 (g471 10)) = true := by kernel_rfl
theorem q483 : isDone (stepsC (tabOf tab) 1000 31267 (g471 11)) = true := by kernel_rfl
theorem q484 : isDone (stepsC (tabOf tab) 1000 27055 (g471 12)) = true := by kernel_rfl
theorem q485 : isDone (stepsC (tabOf tab) 1000 22936 (g471 13)) = true := by kernel_rfl
theorem q486 : isDone (stepsC (tabOf tab) 1000 18910 (g471 14)) = true := by kernel_rfl
theorem q487 : isDone (stepsC (tabOf tab) 1000 14977 (g471 15)) = true := by kernel_rfl
theorem q488 : isDone (stepsC (tabOf tab) 1000 11137 (g471 16)) = true := by kernel_rfl
theorem q489 : isDone (stepsC (tabOf tab) 1000 7390 (g471 17)) = true := by kernel_rfl
theorem q490 : isDone (stepsC (tabOf tab) 1000 3736 (g471 18)) = true := by kernel_rfl
theorem q491 (X0 : Int) (X1 : Int) : cutE (tabOf tab) 1000 6 (h258 X0 X1 (.ofNat 19)) (idsOf l491) = cutR (tabOf tab) 1000 6 (h258 X0 X1 (.ofNat 19)) 100 ks491 (dropO 0 (opsOf (subC c6.code [1, 1, 0]))) (f491 X0 X1) 0 allV allV (objsOf l491) := by kernel_rfl
end Go.Proofs.Ytocblgajooeehaa.Lit
