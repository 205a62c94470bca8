/-
  A long run, part by part.
-/
import Derived.Test.YtocblgajooeehaaCutD1
namespace Go.Proofs.Ytocblgajooeehaa.Lit
open Go Go.Vabs Go.Vabs.Ph
set_option maxRecDepth 100000
set_option linter.unusedVariables false
theorem q189 : isDone (stepsC (tabOf tab) 1000 47152 (g173 15)) = true := by kernel_rfl
theorem q190 : isDone (stepsC (tabOf tab) 1000 47012 (g173 16)) = true := by kernel_rfl
theorem q191 (X0 : Int) (X1 : Int) : cutE (tabOf tab) 1000 6 (h1 X0 X1 (.ofNat 17)) (idsOf l191) = cutR (tabOf tab) 1000 6 (h1 X0 X1 (.ofNat 17)) 100 ks191 (dropO 0 (opsOf (subC c6.code [1, 1, 0]))) (f191 X0 X1) 0 allV allV (objsOf l191) := by kernel_rfl
theorem q192 (X0 : Int) (X1 : Int) (A0 : Nat) : cutE (tabOf tab) 1000 59303 (h191 X0 X1 (.ofNat A0)) (idsOf l192) = cutR (tabOf tab) 1000 59303 (h191 X0 X1 (.ofNat A0)) 100 ks192 (dropO 2 (opsOf (subC c6.code [1, 1, 1, 1, 1, 0]))) (f192 A0) 1267 allV allV (objsOf l192) := by kernel_rfl
theorem q193 (A0 : Nat) : cutE (tabOf tab) 1000 13010 (g192 A0) (idsOf l193) = cutR (tabOf tab) 1000 13010 (g192 A0) 99 (ks193 A0) (dropO 0 (opsOf (subC c13.code [1, 1, 1, 0]))) f193 1487 allV allV (objsOf l193) := by kernel_rfl
theorem q194 : isDone (stepsC (tabOf tab) 1000 46872 (g193 0)) = true := by kernel_rfl
theorem q195 : isDone (stepsC (tabOf tab) 1000 47327 (g193 1)) = true := by kernel_rfl
theorem q196 : isDone (stepsC (tabOf tab) 1000 47782 (g193 2)) = true := by kernel_rfl
theorem q197 : isDone (stepsC (tabOf tab) 1000 48237 (g193 3)) = true := by kernel_rfl
theorem q198 : isDone (stepsC (tabOf tab) 1000 48692 (g193 4)) = true := by kernel_rfl
theorem q199 : isDone (stepsC (tabOf tab) 1000 49147 (g193 5)) = true := by kernel_rfl
theorem q200 : isDone (stepsC (tabOf tab) 1000 48972 (g193 6)) = true := by kernel_rfl
theorem q201 : isDone (stepsC (tabOf tab) 1000 48797 (g193 7)) = true := by kernel_rfl
theorem q202 : isDone (stepsC (tabOf tab) 1000 48622 (g193 8)) = true := by kernel_rfl
theorem q203 : isDone (stepsC (tabOf tab) 1000 48447 (g193 9)) = true := by kernel_rfl
theorem q204 : isDone (stepsC (tabOf tab) 1000 48272 (g193 10)) = true := by kernel_rfl
theorem q205 : isDone (stepsC (tabOf tab) 1000 48097 (g193 11)) = true := by kernel_rfl
theorem q206 : isDone (stepsC (tabOf tab) 1000 47922 (g193 12)) = true := by kernel_rfl
theorem q207 : isDone (stepsC (tabOf tab) 1000 47747 (g193 13)) = true := by kernel_rfl
theorem q208 : isDone (stepsC (tabOf tab) 1000 47572 (g193 14)) = true := by kernel_rfl
theorem q209 : isDone (stepsC (tabOf tab) 1000 47397 (g193 15)) = true := by kernel_rfl
theorem q210 : isDone (stepsC (tabOf tab) 1000 47222 (g193 16)) = true := by kernel_rfl
theorem q211 : isDone (stepsC (tabOf tab) 1000 47047 (g193 17)) = true := by kernel_rfl
theorem q212 (X0 : Int) (X1 : Int) : cutE (tabOf tab) 1000 6 (h1 X0 X1 (.ofNat 18)) (idsOf l212) = cutR (tabOf tab) 1000 6 (h1 X0 X1 (.ofNat 18)) 100 ks212 (dropO 0 (opsOf (subC c6.code [1, 1, 0]))) (f212 X0 X1) 0 allV allV (objsOf l212) := by kernel_rfl
theorem q213 (X0 : Int) (X1 : Int) (A0 : Nat) : cutE (tabOf tab) 1000 61960 (h212 X0 X1 (.ofNat A0)) (idsOf l213) = cutR (tabOf tab) 1000 61960 (h212 X0 X1 (.ofNat A0)) 100 ks213 (dropO 2 (opsOf (subC c6.code [1, 1, 1, 1, 1, 0]))) (f213 A0) 1327 allV allV (objsOf l213) := by kernel_rfl
theorem q214 (A0 : Nat) : cutE (tabOf tab) 1000 13010 (g213 A0) (idsOf l214) = cutR (tabOf tab) 1000 13010 (g213 A0) 99 (ks214 A0) (dropO 0 (opsOf (subC c13.code [1, 1, 1, 0]))) f214 1547 allV allV (objsOf l214) := by kernel_rfl
end Go.Proofs.Ytocblgajooeehaa.Lit
