/-
  A long run, part by part.
-/
import Derived.Test.YtocblgajooeehaaCutD1
namespace Go.Proofs.Ytocblgajooeehaa.Lit
open Go Go.Vabs Go.Vabs.Ph
set_option maxRecDepth 100000
set_option linter.unusedVariables false
theorem q492 (X0 : Int) (X1 : Int) (A0 : Nat) : cutE (tabOf tab) 1000 53360 (h491 X0 X1 (.ofNat A0)) (idsOf l492) = cutR (tabOf tab) 1000 53360 (h491 X0 X1 (.ofNat A0)) 99 (ks492 A0) (dropO 1 (opsOf (subC c12.code [1, 1, 1, 1, 0]))) f492 1322 allV allV (objsOf l492) := by kernel_rfl
theorem q493 (A0 : Nat) : cutE (tabOf tab) 1000 23189 (g492 A0) (idsOf l493) = cutR (tabOf tab) 1000 23189 (g492 A0) 99 (ks493 A0) (dropO 0 (opsOf (subC c13.code [1, 1, 1, 0]))) f493 1583 allV allV (objsOf l493) := by kernel_rfl
theorem q494 : isDone (stepsC (tabOf tab) 1000 46878 (g493 0)) = true := by kernel_rfl
theorem q495 : isDone (stepsC (tabOf tab) 1000 47333 (g493 1)) = true := by kernel_rfl
theorem q496 : isDone (stepsC (tabOf tab) 1000 47788 (g493 2)) = true := by kernel_rfl
theorem q497 : isDone (stepsC (tabOf tab) 1000 48243 (g493 3)) = true := by kernel_rfl
theorem q498 : isDone (stepsC (tabOf tab) 1000 48698 (g493 4)) = true := by kernel_rfl
theorem q499 : isDone (stepsC (tabOf tab) 1000 49153 (g493 5)) = true := by kernel_rfl
theorem q500 : isDone (stepsC (tabOf tab) 1000 49608 (g493 6)) = true := by kernel_rfl
theorem q501 : isDone (stepsC (tabOf tab) 1000 50063 (g493 7)) = true := by kernel_rfl
theorem q502 : isDone (stepsC (tabOf tab) 1000 49465 (g493 8)) = true := by kernel_rfl
theorem q503 : isDone (stepsC (tabOf tab) 1000 44846 (g493 9)) = true := by kernel_rfl
theorem q504 : isDone (stepsC (tabOf tab) 1000 40320 (g493 10)) = true := by kernel_rfl
theorem q505 : isDone (stepsC (tabOf tab) 1000 35887 (g493 11)) = true := by kernel_rfl
theorem q506 : isDone (stepsC (tabOf tab) 1000 31547 (g493 12)) = true := by kernel_rfl
theorem q507 : isDone (stepsC (tabOf tab) 1000 27300 (g493 13)) = true := by kernel_rfl
theorem q508 : isDone (stepsC (tabOf tab) 1000 23146 (g493 14)) = true := by kernel_rfl
theorem q509 : isDone (stepsC (tabOf tab) 1000 19085 (g493 15)) = true := by kernel_rfl
theorem q510 : isDone (stepsC (tabOf tab) 1000 15117 (g493 16)) = true := by kernel_rfl
theorem q511 : isDone (stepsC (tabOf tab) 1000 11242 (g493 17)) = true := by kernel_rfl
theorem q512 : isDone (stepsC (tabOf tab) 1000 7460 (g493 18)) = true := by kernel_rfl
theorem q513 : isDone (stepsC (tabOf tab) 1000 3771 (g493 19)) = true := by kernel_rfl
end Go.Proofs.Ytocblgajooeehaa.Lit
