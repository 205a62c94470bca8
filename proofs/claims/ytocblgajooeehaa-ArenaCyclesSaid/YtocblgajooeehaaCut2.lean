/-
  A long run, part by part.
-/
import Derived.Test.YtocblgajooeehaaCutD1
namespace Go.Proofs.Ytocblgajooeehaa.Lit
open Go Go.Vabs Go.Vabs.Ph
set_option maxRecDepth 100000
set_option linter.unusedVariables false
theorem q57 : isDone (stepsC (tabOf tab) 1000 32599 (g55 1)) = true := by kernel_rfl
theorem q58 : isDone (stepsC (tabOf tab) 1000 32634 (g55 2)) = true := by kernel_rfl
theorem q59 : isDone (stepsC (tabOf tab) 1000 32669 (g55 3)) = true := by kernel_rfl
theorem q60 : isDone (stepsC (tabOf tab) 1000 32704 (g55 4)) = true := by kernel_rfl
theorem q61 : isDone (stepsC (tabOf tab) 1000 32739 (g55 5)) = true := by kernel_rfl
theorem q62 : isDone (stepsC (tabOf tab) 1000 32774 (g55 6)) = true := by kernel_rfl
theorem q63 : isDone (stepsC (tabOf tab) 1000 32809 (g55 7)) = true := by kernel_rfl
theorem q64 : isDone (stepsC (tabOf tab) 1000 32844 (g55 8)) = true := by kernel_rfl
theorem q65 (X0 : Int) (X1 : Int) : cutE (tabOf tab) 1000 6 (h1 X0 X1 (.ofNat 9)) (idsOf l65) = cutR (tabOf tab) 1000 6 (h1 X0 X1 (.ofNat 9)) 100 ks65 (dropO 0 (opsOf (subC c6.code [1, 1, 0]))) (f65 X0 X1) 0 allV allV (objsOf l65) := by kernel_rfl
theorem q66 (X0 : Int) (X1 : Int) (A0 : Nat) : cutE (tabOf tab) 1000 51057 (h65 X0 X1 (.ofNat A0)) (idsOf l66) = cutR (tabOf tab) 1000 51057 (h65 X0 X1 (.ofNat A0)) 99 (ks66 A0) (dropO 0 (opsOf (subC c13.code [1, 1, 1, 0]))) f66 1007 allV allV (objsOf l66) := by kernel_rfl
theorem q67 : isDone (stepsC (tabOf tab) 1000 36774 (g66 0)) = true := by kernel_rfl
theorem q68 : isDone (stepsC (tabOf tab) 1000 36809 (g66 1)) = true := by kernel_rfl
theorem q69 : isDone (stepsC (tabOf tab) 1000 36844 (g66 2)) = true := by kernel_rfl
theorem q70 : isDone (stepsC (tabOf tab) 1000 36879 (g66 3)) = true := by kernel_rfl
theorem q71 : isDone (stepsC (tabOf tab) 1000 36914 (g66 4)) = true := by kernel_rfl
theorem q72 : isDone (stepsC (tabOf tab) 1000 36949 (g66 5)) = true := by kernel_rfl
theorem q73 : isDone (stepsC (tabOf tab) 1000 36984 (g66 6)) = true := by kernel_rfl
theorem q74 : isDone (stepsC (tabOf tab) 1000 37019 (g66 7)) = true := by kernel_rfl
theorem q75 : isDone (stepsC (tabOf tab) 1000 37054 (g66 8)) = true := by kernel_rfl
theorem q76 : isDone (stepsC (tabOf tab) 1000 37089 (g66 9)) = true := by kernel_rfl
theorem q77 (X0 : Int) (X1 : Int) : cutE (tabOf tab) 1000 6 (h1 X0 X1 (.ofNat 10)) (idsOf l77) = cutR (tabOf tab) 1000 6 (h1 X0 X1 (.ofNat 10)) 100 ks77 (dropO 0 (opsOf (subC c6.code [1, 1, 0]))) (f77 X0 X1) 0 allV allV (objsOf l77) := by kernel_rfl
theorem q78 (X0 : Int) (X1 : Int) (A0 : Nat) : cutE (tabOf tab) 1000 53714 (h77 X0 X1 (.ofNat A0)) (idsOf l78) = cutR (tabOf tab) 1000 53714 (h77 X0 X1 (.ofNat A0)) 99 (ks78 A0) (dropO 0 (opsOf (subC c13.code [1, 1, 1, 0]))) f78 1067 allV allV (objsOf l78) := by kernel_rfl
theorem q79 : isDone (stepsC (tabOf tab) 1000 41147 (g78 0)) = true := by kernel_rfl
theorem q80 : isDone (stepsC (tabOf tab) 1000 41182 (g78 1)) = true := by kernel_rfl
theorem q81 : isDone (stepsC (tabOf tab) 1000 41217 (g78 2)) = true := by kernel_rfl
theorem q82 : isDone (stepsC (tabOf tab) 1000 41252 (g78 3)) = true := by kernel_rfl
theorem q83 : isDone (stepsC (tabOf tab) 1000 41287 (g78 4)) = true := by kernel_rfl
theorem q84 : isDone (stepsC (tabOf tab) 1000 41322 (g78 5)) = true := by kernel_rfl
theorem q85 : isDone (stepsC (tabOf tab) 1000 41357 (g78 6)) = true := by kernel_rfl
theorem q86 : isDone (stepsC (tabOf tab) 1000 41392 (g78 7)) = true := by kernel_rfl
theorem q87 : isDone (stepsC (tabOf tab) 1000 41427 (g78 8)) = true := by kernel_rfl
end Go.Proofs.Ytocblgajooeehaa.Lit
