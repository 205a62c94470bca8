/-
  A long run, part by part.
-/
import Derived.Test.YtocblgajooeehaaCutD1
namespace Go.Proofs.Ytocblgajooeehaa.Lit
open Go Go.Vabs Go.Vabs.Ph
set_option maxRecDepth 100000
set_option linter.unusedVariables false
theorem q88 : isDone (stepsC (tabOf tab) 1000 41462 (g78 9)) = true := by kernel_rfl
theorem q89 : isDone (stepsC (tabOf tab) 1000 41497 (g78 10)) = true := by kernel_rfl
theorem q90 (X0 : Int) (X1 : Int) : cutE (tabOf tab) 1000 6 (h1 X0 X1 (.ofNat 11)) (idsOf l90) = cutR (tabOf tab) 1000 6 (h1 X0 X1 (.ofNat 11)) 100 ks90 (dropO 0 (opsOf (subC c6.code [1, 1, 0]))) (f90 X0 X1) 0 allV allV (objsOf l90) := by kernel_rfl
theorem q91 (X0 : Int) (X1 : Int) (A0 : Nat) : cutE (tabOf tab) 1000 56371 (h90 X0 X1 (.ofNat A0)) (idsOf l91) = cutR (tabOf tab) 1000 56371 (h90 X0 X1 (.ofNat A0)) 99 (ks91 A0) (dropO 0 (opsOf (subC c13.code [1, 1, 1, 0]))) f91 1127 allV allV (objsOf l91) := by kernel_rfl
theorem q92 : isDone (stepsC (tabOf tab) 1000 45683 (g91 0)) = true := by kernel_rfl
theorem q93 : isDone (stepsC (tabOf tab) 1000 45718 (g91 1)) = true := by kernel_rfl
theorem q94 : isDone (stepsC (tabOf tab) 1000 45753 (g91 2)) = true := by kernel_rfl
theorem q95 : isDone (stepsC (tabOf tab) 1000 45788 (g91 3)) = true := by kernel_rfl
theorem q96 : isDone (stepsC (tabOf tab) 1000 45823 (g91 4)) = true := by kernel_rfl
theorem q97 : isDone (stepsC (tabOf tab) 1000 45858 (g91 5)) = true := by kernel_rfl
theorem q98 : isDone (stepsC (tabOf tab) 1000 45893 (g91 6)) = true := by kernel_rfl
theorem q99 : isDone (stepsC (tabOf tab) 1000 45928 (g91 7)) = true := by kernel_rfl
theorem q100 : isDone (stepsC (tabOf tab) 1000 45963 (g91 8)) = true := by kernel_rfl
theorem q101 : isDone (stepsC (tabOf tab) 1000 45998 (g91 9)) = true := by kernel_rfl
theorem q102 : isDone (stepsC (tabOf tab) 1000 46033 (g91 10)) = true := by kernel_rfl
theorem q103 : isDone (stepsC (tabOf tab) 1000 46068 (g91 11)) = true := by kernel_rfl
theorem q104 (X0 : Int) (X1 : Int) : cutE (tabOf tab) 1000 6 (h1 X0 X1 (.ofNat 12)) (idsOf l104) = cutR (tabOf tab) 1000 6 (h1 X0 X1 (.ofNat 12)) 100 ks104 (dropO 0 (opsOf (subC c6.code [1, 1, 0]))) (f104 X0 X1) 0 allV allV (objsOf l104) := by kernel_rfl
theorem q105 (X0 : Int) (X1 : Int) (A0 : Nat) : cutE (tabOf tab) 1000 59028 (h104 X0 X1 (.ofNat A0)) (idsOf l105) = cutR (tabOf tab) 1000 59028 (h104 X0 X1 (.ofNat A0)) 99 (ks105 A0) (dropO 0 (opsOf (subC c13.code [1, 1, 1, 0]))) f105 1187 allV allV (objsOf l105) := by kernel_rfl
theorem q106 : isDone (stepsC (tabOf tab) 1000 46872 (g105 0)) = true := by kernel_rfl
theorem q107 : isDone (stepsC (tabOf tab) 1000 46872 (g105 1)) = true := by kernel_rfl
theorem q108 : isDone (stepsC (tabOf tab) 1000 46872 (g105 2)) = true := by kernel_rfl
theorem q109 : isDone (stepsC (tabOf tab) 1000 46872 (g105 3)) = true := by kernel_rfl
theorem q110 : isDone (stepsC (tabOf tab) 1000 46872 (g105 4)) = true := by kernel_rfl
theorem q111 : isDone (stepsC (tabOf tab) 1000 46872 (g105 5)) = true := by kernel_rfl
theorem q112 : isDone (stepsC (tabOf tab) 1000 46872 (g105 6)) = true := by kernel_rfl
theorem q113 : isDone (stepsC (tabOf tab) 1000 46872 (g105 7)) = true := by kernel_rfl
end Go.Proofs.Ytocblgajooeehaa.Lit
