/-
  A long run, part by part.
-/
import Derived.Test.YtocblgajooeehaaCutD2
namespace Go.Proofs.Ytocblgajooeehaa.Lit
open Go Go.Vabs Go.Vabs.Ph
set_option maxRecDepth 100000
set_option linter.unusedVariables false
theorem q1 (X0 : Int) : cutE (tabOf tab) 1000 7 (g0 X0) (idsOf l1) = cutR (tabOf tab) 1000 7 (g0 X0) 100 ks1 (dropO 0 (opsOf (subC c5.code [1, 0]))) (f1 X0) 0 allV allV (objsOf l1) := by kernel_rfl
theorem q2 (X0 : Int) : cutE (tabOf tab) 1000 26066 (h1 X0 (.ofNat 0)) (idsOf l2) = cutR (tabOf tab) 1000 26066 (h1 X0 (.ofNat 0)) 99 ks2 (dropO 0 (opsOf (subC c13.code [1, 1, 1, 0]))) f2 445 allV allV (objsOf l2) := by kernel_rfl
theorem q3 : isDone (stepsC (tabOf tab) 1000 6033 g2) = true := by kernel_rfl
theorem q4 (X0 : Int) : cutE (tabOf tab) 1000 26089 (h1 X0 (.ofNat 1)) (idsOf l4) = cutR (tabOf tab) 1000 26089 (h1 X0 (.ofNat 1)) 99 ks4 (dropO 0 (opsOf (subC c13.code [1, 1, 1, 0]))) f4 447 allV allV (objsOf l4) := by kernel_rfl
theorem q5 : isDone (stepsC (tabOf tab) 1000 12041 g4) = true := by kernel_rfl
theorem q6 (X0 : Int) : cutE (tabOf tab) 1000 26112 (h1 X0 (.ofNat 2)) (idsOf l6) = cutR (tabOf tab) 1000 26112 (h1 X0 (.ofNat 2)) 99 ks6 (dropO 0 (opsOf (subC c13.code [1, 1, 1, 0]))) f6 449 allV allV (objsOf l6) := by kernel_rfl
theorem q7 : isDone (stepsC (tabOf tab) 1000 24313 g6) = true := by kernel_rfl
theorem q8 (X0 : Int) : cutE (tabOf tab) 1000 26135 (h1 X0 (.ofNat 3)) (idsOf l8) = cutR (tabOf tab) 1000 26135 (h1 X0 (.ofNat 3)) 99 ks8 (dropO 0 (opsOf (subC c13.code [1, 1, 1, 0]))) f8 451 allV allV (objsOf l8) := by kernel_rfl
theorem q9 : isDone (stepsC (tabOf tab) 1000 49369 g8) = true := by kernel_rfl
theorem q10 (X0 : Int) : cutE (tabOf tab) 1000 26158 (h1 X0 (.ofNat 4)) (idsOf l10) = cutR (tabOf tab) 1000 26158 (h1 X0 (.ofNat 4)) 99 ks10 (dropO 0 (opsOf (subC c13.code [1, 1, 1, 0]))) f10 453 allV allV (objsOf l10) := by kernel_rfl
theorem q11 : isDone (stepsC (tabOf tab) 1000 100505 g10) = true := by kernel_rfl
theorem q12 (X0 : Int) : cutE (tabOf tab) 1000 26181 (h1 X0 (.ofNat 5)) (idsOf l12) = cutR (tabOf tab) 1000 26181 (h1 X0 (.ofNat 5)) 99 ks12 (dropO 0 (opsOf (subC c13.code [1, 1, 1, 0]))) f12 455 allV allV (objsOf l12) := by kernel_rfl
theorem q13 : cutE (tabOf tab) 1000 99334 g12 (idsOf l13) = cutR (tabOf tab) 1000 99334 g12 97 ks13 (dropO 1 (opsOf (subC c34.code [1, 1, 1, 1, 1, 1, 0, 1, 0, 0, 1, 1, 0, 0, 1, 0]))) f13 1090 allV allV (objsOf l13) := by kernel_rfl
theorem q14 : isDone (stepsC (tabOf tab) 1000 105491 g13) = true := by kernel_rfl
theorem q15 (X0 : Int) : cutE (tabOf tab) 1000 26204 (h1 X0 (.ofNat 6)) (idsOf l15) = cutR (tabOf tab) 1000 26204 (h1 X0 (.ofNat 6)) 99 ks15 (dropO 0 (opsOf (subC c13.code [1, 1, 1, 0]))) f15 457 allV allV (objsOf l15) := by kernel_rfl
theorem q16 : cutE (tabOf tab) 1000 102820 g15 (idsOf l16) = cutR (tabOf tab) 1000 102820 g15 96 ks16 (dropO 1 (opsOf (subC c34.code [1, 1, 1, 1, 1, 1, 0, 1, 0, 0, 1, 1, 0, 0, 1, 0]))) f16 1101 allV allV (objsOf l16) := by kernel_rfl
theorem q17 : cutE (tabOf tab) 1000 98210 g16 (idsOf l17) = cutR (tabOf tab) 1000 98210 g16 97 ks17 (dropO 1 (opsOf (subC c34.code [1, 1, 1, 1, 1, 1, 0, 1, 0, 0, 1, 1, 0, 0, 1, 0]))) f17 1701 allV allV (objsOf l17) := by kernel_rfl
theorem q18 : cutE (tabOf tab) 1000 99598 g17 (idsOf l18) = cutR (tabOf tab) 1000 99598 g17 96 ks18 (dropO 1 (opsOf (subC c34.code [1, 1, 1, 1, 1, 1, 0, 1, 0, 0, 1, 1, 0, 0, 1, 0]))) f18 2306 allV allV (objsOf l18) := by kernel_rfl
theorem q19 : isDone (stepsC (tabOf tab) 1000 116933 g18) = true := by kernel_rfl
theorem q20 (X0 : Int) : cutE (tabOf tab) 1000 26227 (h1 X0 (.ofNat 7)) (idsOf l20) = cutR (tabOf tab) 1000 26227 (h1 X0 (.ofNat 7)) 99 ks20 (dropO 0 (opsOf (subC c13.code [1, 1, 1, 0]))) f20 459 allV allV (objsOf l20) := by kernel_rfl
end Go.Proofs.Ytocblgajooeehaa.Lit
