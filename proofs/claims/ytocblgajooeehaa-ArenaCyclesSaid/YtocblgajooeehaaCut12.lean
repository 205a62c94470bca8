/-
  A long run, part by part.
-/
import Derived.Test.YtocblgajooeehaaCutD1
namespace Go.Proofs.Ytocblgajooeehaa.Lit
open Go Go.Vabs Go.Vabs.Ph
set_option maxRecDepth 100000
set_option linter.unusedVariables false
theorem q382 : isDone (stepsC (tabOf tab) 1000 38220 (g377 4)) = true := by kernel_rfl
theorem q383 : isDone (stepsC (tabOf tab) 1000 33997 (g377 5)) = true := by kernel_rfl
theorem q384 : isDone (stepsC (tabOf tab) 1000 29867 (g377 6)) = true := by kernel_rfl
theorem q385 : isDone (stepsC (tabOf tab) 1000 25830 (g377 7)) = true := by kernel_rfl
theorem q386 : isDone (stepsC (tabOf tab) 1000 21886 (g377 8)) = true := by kernel_rfl
theorem q387 : isDone (stepsC (tabOf tab) 1000 18035 (g377 9)) = true := by kernel_rfl
theorem q388 : isDone (stepsC (tabOf tab) 1000 14277 (g377 10)) = true := by kernel_rfl
theorem q389 : isDone (stepsC (tabOf tab) 1000 10612 (g377 11)) = true := by kernel_rfl
theorem q390 : isDone (stepsC (tabOf tab) 1000 7040 (g377 12)) = true := by kernel_rfl
theorem q391 : isDone (stepsC (tabOf tab) 1000 3561 (g377 13)) = true := by kernel_rfl
theorem q392 (X0 : Int) (X1 : Int) : cutE (tabOf tab) 1000 6 (h258 X0 X1 (.ofNat 14)) (idsOf l392) = cutR (tabOf tab) 1000 6 (h258 X0 X1 (.ofNat 14)) 100 ks392 (dropO 0 (opsOf (subC c6.code [1, 1, 0]))) (f392 X0 X1) 0 allV allV (objsOf l392) := by kernel_rfl
theorem q393 (X0 : Int) (X1 : Int) (A0 : Nat) : cutE (tabOf tab) 1000 63264 (h392 X0 X1 (.ofNat A0)) (idsOf l393) = cutR (tabOf tab) 1000 63264 (h392 X0 X1 (.ofNat A0)) 99 (ks393 A0) (dropO 0 (opsOf (subC c13.code [1, 1, 1, 0]))) f393 1283 allV allV (objsOf l393) := by kernel_rfl
theorem q394 : isDone (stepsC (tabOf tab) 1000 46878 (g393 0)) = true := by kernel_rfl
theorem q395 : isDone (stepsC (tabOf tab) 1000 47333 (g393 1)) = true := by kernel_rfl
theorem q396 : isDone (stepsC (tabOf tab) 1000 47788 (g393 2)) = true := by kernel_rfl
theorem q397 : isDone (stepsC (tabOf tab) 1000 47365 (g393 3)) = true := by kernel_rfl
theorem q398 : isDone (stepsC (tabOf tab) 1000 42921 (g393 4)) = true := by kernel_rfl
theorem q399 : isDone (stepsC (tabOf tab) 1000 38570 (g393 5)) = true := by kernel_rfl
theorem q400 : isDone (stepsC (tabOf tab) 1000 34312 (g393 6)) = true := by kernel_rfl
theorem q401 : isDone (stepsC (tabOf tab) 1000 30147 (g393 7)) = true := by kernel_rfl
theorem q402 : isDone (stepsC (tabOf tab) 1000 26075 (g393 8)) = true := by kernel_rfl
theorem q403 : isDone (stepsC (tabOf tab) 1000 22096 (g393 9)) = true := by kernel_rfl
theorem q404 : isDone (stepsC (tabOf tab) 1000 18210 (g393 10)) = true := by kernel_rfl
theorem q405 : isDone (stepsC (tabOf tab) 1000 14417 (g393 11)) = true := by kernel_rfl
theorem q406 : isDone (stepsC (tabOf tab) 1000 10717 (g393 12)) = true := by kernel_rfl
theorem q407 : isDone (stepsC (tabOf tab) 1000 7110 (g393 13)) = true := by kernel_rfl
theorem q408 : isDone (stepsC (tabOf tab) 1000 3596 (g393 14)) = true := by kernel_rfl
theorem q409 (X0 : Int) (X1 : Int) : cutE (tabOf tab) 1000 6 (h258 X0 X1 (.ofNat 15)) (idsOf l409) = cutR (tabOf tab) 1000 6 (h258 X0 X1 (.ofNat 15)) 100 ks409 (dropO 0 (opsOf (subC c6.code [1, 1, 0]))) (f409 X0 X1) 0 allV allV (objsOf l409) := by kernel_rfl
theorem q410 (X0 : Int) (X1 : Int) (A0 : Nat) : cutE (tabOf tab) 1000 52911 (h409 X0 X1 (.ofNat A0)) (idsOf l410) = cutR (tabOf tab) 1000 52911 (h409 X0 X1 (.ofNat A0)) 100 ks410 (dropO 2 (opsOf (subC c6.code [1, 1, 1, 1, 1, 0]))) (f410 A0) 1123 allV allV (objsOf l410) := by kernel_rfl
theorem q411 (A0 : Nat) : cutE (tabOf tab) 1000 13010 (g410 A0) (idsOf l411) = cutR (tabOf tab) 1000 13010 (g410 A0) 99 (ks411 A0) (dropO 0 (opsOf (subC c13.code [1, 1, 1, 0]))) f411 1343 allV allV (objsOf l411) := by kernel_rfl
theorem q412 : isDone (stepsC (tabOf tab) 1000 46878 (g411 0)) = true := by kernel_rfl
theorem q413 : isDone (stepsC (tabOf tab) 1000 47333 (g411 1)) = true := by kernel_rfl
theorem q414 : isDone (stepsC (tabOf tab) 1000 47788 (g411 2)) = true := by kernel_rfl
theorem q415 : isDone (stepsC (tabOf tab) 1000 48243 (g411 3)) = true := by kernel_rfl
theorem q416 : isDone (stepsC (tabOf tab) 1000 47785 (g411 4)) = true := by kernel_rfl
theorem q417 : isDone (stepsC (tabOf tab) 1000 43306 (g411 5)) = true := by kernel_rfl
theorem q418 : isDone (stepsC (tabOf tab) 1000 38920 (g411 6)) = true := by kernel_rfl
end Go.Proofs.Ytocblgajooeehaa.Lit
