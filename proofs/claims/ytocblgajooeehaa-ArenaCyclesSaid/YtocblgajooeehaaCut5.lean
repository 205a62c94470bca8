/-
  A long run, part by part.
-/
import Derived.Test.YtocblgajooeehaaCutD1
namespace Go.Proofs.Ytocblgajooeehaa.Lit
open Go Go.Vabs Go.Vabs.Ph
set_option maxRecDepth 100000
set_option linter.unusedVariables false
theorem q139 : isDone (stepsC (tabOf tab) 1000 47782 (g136 2)) = true := by kernel_rfl
theorem q140 : isDone (stepsC (tabOf tab) 1000 47712 (g136 3)) = true := by kernel_rfl
theorem q141 : isDone (stepsC (tabOf tab) 1000 47642 (g136 4)) = true := by kernel_rfl
theorem q142 : isDone (stepsC (tabOf tab) 1000 47572 (g136 5)) = true := by kernel_rfl
theorem q143 : isDone (stepsC (tabOf tab) 1000 47502 (g136 6)) = true := by kernel_rfl
theorem q144 : isDone (stepsC (tabOf tab) 1000 47432 (g136 7)) = true := by kernel_rfl
theorem q145 : isDone (stepsC (tabOf tab) 1000 47362 (g136 8)) = true := by kernel_rfl
theorem q146 : isDone (stepsC (tabOf tab) 1000 47292 (g136 9)) = true := by kernel_rfl
theorem q147 : isDone (stepsC (tabOf tab) 1000 47222 (g136 10)) = true := by kernel_rfl
theorem q148 : isDone (stepsC (tabOf tab) 1000 47152 (g136 11)) = true := by kernel_rfl
theorem q149 : isDone (stepsC (tabOf tab) 1000 47082 (g136 12)) = true := by kernel_rfl
theorem q150 : isDone (stepsC (tabOf tab) 1000 47012 (g136 13)) = true := by kernel_rfl
theorem q151 : isDone (stepsC (tabOf tab) 1000 46942 (g136 14)) = true := by kernel_rfl
theorem q152 (X0 : Int) (X1 : Int) : cutE (tabOf tab) 1000 6 (h1 X0 X1 (.ofNat 15)) (idsOf l152) = cutR (tabOf tab) 1000 6 (h1 X0 X1 (.ofNat 15)) 100 ks152 (dropO 0 (opsOf (subC c6.code [1, 1, 0]))) (f152 X0 X1) 0 allV allV (objsOf l152) := by kernel_rfl
theorem q153 (X0 : Int) (X1 : Int) (A0 : Nat) : cutE (tabOf tab) 1000 53989 (h152 X0 X1 (.ofNat A0)) (idsOf l153) = cutR (tabOf tab) 1000 53989 (h152 X0 X1 (.ofNat A0)) 100 ks153 (dropO 2 (opsOf (subC c6.code [1, 1, 1, 1, 1, 0]))) (f153 A0) 1147 allV allV (objsOf l153) := by kernel_rfl
theorem q154 (A0 : Nat) : cutE (tabOf tab) 1000 13010 (g153 A0) (idsOf l154) = cutR (tabOf tab) 1000 13010 (g153 A0) 99 (ks154 A0) (dropO 0 (opsOf (subC c13.code [1, 1, 1, 0]))) f154 1367 allV allV (objsOf l154) := by kernel_rfl
theorem q155 : isDone (stepsC (tabOf tab) 1000 46872 (g154 0)) = true := by kernel_rfl
theorem q156 : isDone (stepsC (tabOf tab) 1000 47327 (g154 1)) = true := by kernel_rfl
theorem q157 : isDone (stepsC (tabOf tab) 1000 47782 (g154 2)) = true := by kernel_rfl
theorem q158 : isDone (stepsC (tabOf tab) 1000 48237 (g154 3)) = true := by kernel_rfl
theorem q159 : isDone (stepsC (tabOf tab) 1000 48132 (g154 4)) = true := by kernel_rfl
theorem q160 : isDone (stepsC (tabOf tab) 1000 48027 (g154 5)) = true := by kernel_rfl
theorem q161 : isDone (stepsC (tabOf tab) 1000 47922 (g154 6)) = true := by kernel_rfl
theorem q162 : isDone (stepsC (tabOf tab) 1000 47817 (g154 7)) = true := by kernel_rfl
theorem q163 : isDone (stepsC (tabOf tab) 1000 47712 (g154 8)) = true := by kernel_rfl
end Go.Proofs.Ytocblgajooeehaa.Lit
