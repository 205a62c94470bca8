/-
  A long run, part by part.
-/
import Derived.Test.YtocblgajooeehaaCutD1
namespace Go.Proofs.Ytocblgajooeehaa.Lit
open Go Go.Vabs Go.Vabs.Ph
set_option maxRecDepth 100000
set_option linter.unusedVariables false
theorem q215 : isDone (stepsC (tabOf tab) 1000 46872 (g214 0)) = true := by kernel_rfl
theorem q216 : isDone (stepsC (tabOf tab) 1000 47327 (g214 1)) = true := by kernel_rfl
theorem q217 : isDone (stepsC (tabOf tab) 1000 47782 (g214 2)) = true := by kernel_rfl
theorem q218 : isDone (stepsC (tabOf tab) 1000 48237 (g214 3)) = true := by kernel_rfl
theorem q219 : isDone (stepsC (tabOf tab) 1000 48692 (g214 4)) = true := by kernel_rfl
theorem q220 : isDone (stepsC (tabOf tab) 1000 49147 (g214 5)) = true := by kernel_rfl
theorem q221 : isDone (stepsC (tabOf tab) 1000 49602 (g214 6)) = true := by kernel_rfl
theorem q222 : isDone (stepsC (tabOf tab) 1000 49392 (g214 7)) = true := by kernel_rfl
theorem q223 : isDone (stepsC (tabOf tab) 1000 49182 (g214 8)) = true := by kernel_rfl
theorem q224 : isDone (stepsC (tabOf tab) 1000 48972 (g214 9)) = true := by kernel_rfl
theorem q225 : isDone (stepsC (tabOf tab) 1000 48762 (g214 10)) = true := by kernel_rfl
theorem q226 : isDone (stepsC (tabOf tab) 1000 48552 (g214 11)) = true := by kernel_rfl
theorem q227 : isDone (stepsC (tabOf tab) 1000 48342 (g214 12)) = true := by kernel_rfl
theorem q228 : isDone (stepsC (tabOf tab) 1000 48132 (g214 13)) = true := by kernel_rfl
theorem q229 : isDone (stepsC (tabOf tab) 1000 47922 (g214 14)) = true := by kernel_rfl
theorem q230 : isDone (stepsC (tabOf tab) 1000 47712 (g214 15)) = true := by kernel_rfl
theorem q231 : isDone (stepsC (tabOf tab) 1000 47502 (g214 16)) = true := by kernel_rfl
theorem q232 : isDone (stepsC (tabOf tab) 1000 47292 (g214 17)) = true := by kernel_rfl
theorem q233 : isDone (stepsC (tabOf tab) 1000 47082 (g214 18)) = true := by kernel_rfl
theorem q234 (X0 : Int) (X1 : Int) : cutE (tabOf tab) 1000 6 (h1 X0 X1 (.ofNat 19)) (idsOf l234) = cutR (tabOf tab) 1000 6 (h1 X0 X1 (.ofNat 19)) 100 ks234 (dropO 0 (opsOf (subC c6.code [1, 1, 0]))) (f234 X0 X1) 0 allV allV (objsOf l234) := by kernel_rfl
theorem q235 (X0 : Int) (X1 : Int) (A0 : Nat) : cutE (tabOf tab) 1000 50659 (h234 X0 X1 (.ofNat A0)) (idsOf l235) = cutR (tabOf tab) 1000 50659 (h234 X0 X1 (.ofNat A0)) 99 (ks235 A0) (dropO 1 (opsOf (subC c12.code [1, 1, 1, 0]))) f235 1274 allV allV (objsOf l235) := by kernel_rfl
theorem q236 (A0 : Nat) : cutE (tabOf tab) 1000 26968 (g235 A0) (idsOf l236) = cutR (tabOf tab) 1000 26968 (g235 A0) 99 (ks236 A0) (dropO 0 (opsOf (subC c13.code [1, 1, 1, 0]))) f236 1607 allV allV (objsOf l236) := by kernel_rfl
theorem q237 : isDone (stepsC (tabOf tab) 1000 46872 (g236 0)) = true := by kernel_rfl
theorem q238 : isDone (stepsC (tabOf tab) 1000 47327 (g236 1)) = true := by kernel_rfl
end Go.Proofs.Ytocblgajooeehaa.Lit
