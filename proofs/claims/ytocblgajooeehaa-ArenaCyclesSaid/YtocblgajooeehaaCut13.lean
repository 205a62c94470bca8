/-
  A long run, part by part.
-/
import Derived.Test.YtocblgajooeehaaCutD1
namespace Go.Proofs.Ytocblgajooeehaa.Lit
open Go Go.Vabs Go.Vabs.Ph
set_option maxRecDepth 100000
set_option linter.unusedVariables false
theorem q419 : isDone (stepsC (tabOf tab) 1000 34627 (g411 7)) = true := by kernel_rfl
theorem q420 : isDone (stepsC (tabOf tab) 1000 30427 (g411 8)) = true := by kernel_rfl
theorem q421 : isDone (stepsC (tabOf tab) 1000 26320 (g411 9)) = true := by kernel_rfl
theorem q422 : isDone (stepsC (tabOf tab) 1000 22306 (g411 10)) = true := by kernel_rfl
theorem q423 : isDone (stepsC (tabOf tab) 1000 18385 (g411 11)) = true := by kernel_rfl
theorem q424 : isDone (stepsC (tabOf tab) 1000 14557 (g411 12)) = true := by kernel_rfl
theorem q425 : isDone (stepsC (tabOf tab) 1000 10822 (g411 13)) = true := by kernel_rfl
theorem q426 : isDone (stepsC (tabOf tab) 1000 7180 (g411 14)) = true := by kernel_rfl
theorem q427 : isDone (stepsC (tabOf tab) 1000 3631 (g411 15)) = true := by kernel_rfl
theorem q428 (X0 : Int) (X1 : Int) : cutE (tabOf tab) 1000 6 (h258 X0 X1 (.ofNat 16)) (idsOf l428) = cutR (tabOf tab) 1000 6 (h258 X0 X1 (.ofNat 16)) 100 ks428 (dropO 0 (opsOf (subC c6.code [1, 1, 0]))) (f428 X0 X1) 0 allV allV (objsOf l428) := by kernel_rfl
theorem q429 (X0 : Int) (X1 : Int) (A0 : Nat) : cutE (tabOf tab) 1000 55568 (h428 X0 X1 (.ofNat A0)) (idsOf l429) = cutR (tabOf tab) 1000 55568 (h428 X0 X1 (.ofNat A0)) 100 ks429 (dropO 2 (opsOf (subC c6.code [1, 1, 1, 1, 1, 0]))) (f429 A0) 1183 allV allV (objsOf l429) := by kernel_rfl
theorem q430 (A0 : Nat) : cutE (tabOf tab) 1000 13010 (g429 A0) (idsOf l430) = cutR (tabOf tab) 1000 13010 (g429 A0) 99 (ks430 A0) (dropO 0 (opsOf (subC c13.code [1, 1, 1, 0]))) f430 1403 allV allV (objsOf l430) := by kernel_rfl
theorem q431 : isDone (stepsC (tabOf tab) 1000 46878 (g430 0)) = true := by kernel_rfl
theorem q432 : isDone (stepsC (tabOf tab) 1000 47333 (g430 1)) = true := by kernel_rfl
theorem q433 : isDone (stepsC (tabOf tab) 1000 47788 (g430 2)) = true := by kernel_rfl
theorem q434 : isDone (stepsC (tabOf tab) 1000 48243 (g430 3)) = true := by kernel_rfl
theorem q435 : isDone (stepsC (tabOf tab) 1000 48698 (g430 4)) = true := by kernel_rfl
theorem q436 : isDone (stepsC (tabOf tab) 1000 48205 (g430 5)) = true := by kernel_rfl
theorem q437 : isDone (stepsC (tabOf tab) 1000 43691 (g430 6)) = true := by kernel_rfl
theorem q438 : isDone (stepsC (tabOf tab) 1000 39270 (g430 7)) = true := by kernel_rfl
theorem q439 : isDone (stepsC (tabOf tab) 1000 34942 (g430 8)) = true := by kernel_rfl
theorem q440 : isDone (stepsC (tabOf tab) 1000 30707 (g430 9)) = true := by kernel_rfl
theorem q441 : isDone (stepsC (tabOf tab) 1000 26565 (g430 10)) = true := by kernel_rfl
theorem q442 : isDone (stepsC (tabOf tab) 1000 22516 (g430 11)) = true := by kernel_rfl
theorem q443 : isDone (stepsC (tabOf tab) 1000 18560 (g430 12)) = true := by kernel_rfl
theorem q444 : isDone (stepsC (tabOf tab) 1000 14697 (g430 13)) = true := by kernel_rfl
theorem q445 : isDone (stepsC (tabOf tab) 1000 10927 (g430 14)) = true := by kernel_rfl
theorem q446 : isDone (stepsC (tabOf tab) 1000 7250 (g430 15)) = true := by kernel_rfl
theorem q447 : isDone (stepsC (tabOf tab) 1000 3666 (g430 16)) = true := by kernel_rfl
theorem q448 (X0 : Int) (X1 : Int) : cutE (tabOf tab) 1000 6 (h258 X0 X1 (.ofNat 17)) (idsOf l448) = cutR (tabOf tab) 1000 6 (h258 X0 X1 (.ofNat 17)) 100 ks448 (dropO 0 (opsOf (subC c6.code [1, 1, 0]))) (f448 X0 X1) 0 allV allV (objsOf l448) := by kernel_rfl
theorem q449 (X0 : Int) (X1 : Int) (A0 : Nat) : cutE (tabOf tab) 1000 58225 (h448 X0 X1 (.ofNat A0)) (idsOf l449) = cutR (tabOf tab) 1000 58225 (h448 X0 X1 (.ofNat A0)) 100 ks449 (dropO 2 (opsOf (subC c6.code [1, 1, 1, 1, 1, 0]))) (f449 A0) 1243 allV allV (objsOf l449) := by kernel_rfl
theorem q450 (A0 : Nat) : cutE (tabOf tab) 1000 13010 (g449 A0) (idsOf l450) = cutR (tabOf tab) 1000 13010 (g449 A0) 99 (ks450 A0) (dropO 0 (opsOf (subC c13.code [1, 1, 1, 0]))) f450 1463 allV allV (objsOf l450) := by kernel_rfl
theorem q451 : isDone (stepsC (tabOf tab) 1000 46878 (g450 0)) = true := by kernel_rfl
theorem q452 : isDone (stepsC (tabOf tab) 1000 47333 (g450 1)) = true := by kernel_rfl
theorem q453 : isDone (stepsC (tabOf tab) 1000 47788 (g450 2)) = true := by kernel_rfl
theorem q454 : isDone (stepsC (tabOf tab) 1000 48243 (g450 3)) = true := by kernel_rfl
theorem q455 : isDone (stepsC (tabOf tab) 1000 48698 (g450 4)) = true := by kernel_rfl
end Go.Proofs.Ytocblgajooeehaa.Lit
