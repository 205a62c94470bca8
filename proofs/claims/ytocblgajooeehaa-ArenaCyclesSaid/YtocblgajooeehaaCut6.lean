/-
  A long run, part by part.
-/
import Derived.Test.YtocblgajooeehaaCutD1
namespace Go.Proofs.Ytocblgajooeehaa.Lit
open Go Go.Vabs Go.Vabs.Ph
set_option maxRecDepth 100000
set_option linter.unusedVariables false
theorem q164 : isDone (stepsC (tabOf tab) 1000 47607 (g154 9)) = true := by kernel_rfl
theorem q165 : isDone (stepsC (tabOf tab) 1000 47502 (g154 10)) = true := by kernel_rfl
theorem q166 : isDone (stepsC (tabOf tab) 1000 47397 (g154 11)) = true := by kernel_rfl
theorem q167 : isDone (stepsC (tabOf tab) 1000 47292 (g154 12)) = true := by kernel_rfl
theorem q168 : isDone (stepsC (tabOf tab) 1000 47187 (g154 13)) = true := by kernel_rfl
theorem q169 : isDone (stepsC (tabOf tab) 1000 47082 (g154 14)) = true := by kernel_rfl
theorem q170 : isDone (stepsC (tabOf tab) 1000 46977 (g154 15)) = true := by kernel_rfl
theorem q171 (X0 : Int) (X1 : Int) : cutE (tabOf tab) 1000 6 (h1 X0 X1 (.ofNat 16)) (idsOf l171) = cutR (tabOf tab) 1000 6 (h1 X0 X1 (.ofNat 16)) 100 ks171 (dropO 0 (opsOf (subC c6.code [1, 1, 0]))) (f171 X0 X1) 0 allV allV (objsOf l171) := by kernel_rfl
theorem q172 (X0 : Int) (X1 : Int) (A0 : Nat) : cutE (tabOf tab) 1000 56646 (h171 X0 X1 (.ofNat A0)) (idsOf l172) = cutR (tabOf tab) 1000 56646 (h171 X0 X1 (.ofNat A0)) 100 ks172 (dropO 2 (opsOf (subC c6.code [1, 1, 1, 1, 1, 0]))) (f172 A0) 1207 allV allV (objsOf l172) := by kernel_rfl
theorem q173 (A0 : Nat) : cutE (tabOf tab) 1000 13010 (g172 A0) (idsOf l173) = cutR (tabOf tab) 1000 13010 (g172 A0) 99 (ks173 A0) (dropO 0 (opsOf (subC c13.code [1, 1, 1, 0]))) f173 1427 allV allV (objsOf l173) := by kernel_rfl
theorem q174 : isDone (stepsC (tabOf tab) 1000 46872 (g173 0)) = true := by kernel_rfl
theorem q175 : isDone (stepsC (tabOf tab) 1000 47327 (g173 1)) = true := by kernel_rfl
theorem q176 : isDone (stepsC (tabOf tab) 1000 47782 (g173 2)) = true := by kernel_rfl
theorem q177 : isDone (stepsC (tabOf tab) 1000 48237 (g173 3)) = true := by kernel_rfl
theorem q178 : isDone (stepsC (tabOf tab) 1000 48692 (g173 4)) = true := by kernel_rfl
theorem q179 : isDone (stepsC (tabOf tab) 1000 48552 (g173 5)) = true := by kernel_rfl
theorem q180 : isDone (stepsC (tabOf tab) 1000 48412 (g173 6)) = true := by kernel_rfl
theorem q181 : isDone (stepsC (tabOf tab) 1000 48272 (g173 7)) = true := by kernel_rfl
theorem q182 : isDone (stepsC (tabOf tab) 1000 48132 (g173 8)) = true := by kernel_rfl
theorem q183 : isDone (stepsC (tabOf tab) 1000 47992 (g173 9)) = true := by kernel_rfl
theorem q184 : isDone (stepsC (tabOf tab) 1000 47852 (g173 10)) = true := by kernel_rfl
theorem q185 : isDone (stepsC (tabOf tab) 1000 47712 (g173 11)) = true := by kernel_rfl
theorem q186 : isDone (stepsC (tabOf tab) 1000 47572 (g173 12)) = true := by kernel_rfl
theorem q187 : isDone (stepsC (tabOf tab) 1000 47432 (g173 13)) = true := by kernel_rfl
theorem q188 : isDone (stepsC (tabOf tab) 1000 47292 (g173 14)) = true := by kernel_rfl
end Go.Proofs.Ytocblgajooeehaa.Lit
