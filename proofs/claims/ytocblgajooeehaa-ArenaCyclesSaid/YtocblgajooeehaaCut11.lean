/-
  A long run, part by part.
-/
import Derived.Test.YtocblgajooeehaaCutD1
namespace Go.Proofs.Ytocblgajooeehaa.Lit
open Go Go.Vabs Go.Vabs.Ph
set_option maxRecDepth 100000
set_option linter.unusedVariables false
theorem q340 : isDone (stepsC (tabOf tab) 1000 25095 (g335 4)) = true := by kernel_rfl
theorem q341 : isDone (stepsC (tabOf tab) 1000 21256 (g335 5)) = true := by kernel_rfl
theorem q342 : isDone (stepsC (tabOf tab) 1000 17510 (g335 6)) = true := by kernel_rfl
theorem q343 : isDone (stepsC (tabOf tab) 1000 13857 (g335 7)) = true := by kernel_rfl
theorem q344 : isDone (stepsC (tabOf tab) 1000 10297 (g335 8)) = true := by kernel_rfl
theorem q345 : isDone (stepsC (tabOf tab) 1000 6830 (g335 9)) = true := by kernel_rfl
theorem q346 : isDone (stepsC (tabOf tab) 1000 3456 (g335 10)) = true := by kernel_rfl
theorem q347 (X0 : Int) (X1 : Int) : cutE (tabOf tab) 1000 6 (h258 X0 X1 (.ofNat 11)) (idsOf l347) = cutR (tabOf tab) 1000 6 (h258 X0 X1 (.ofNat 11)) 100 ks347 (dropO 0 (opsOf (subC c6.code [1, 1, 0]))) (f347 X0 X1) 0 allV allV (objsOf l347) := by kernel_rfl
theorem q348 (X0 : Int) (X1 : Int) (A0 : Nat) : cutE (tabOf tab) 1000 55293 (h347 X0 X1 (.ofNat A0)) (idsOf l348) = cutR (tabOf tab) 1000 55293 (h347 X0 X1 (.ofNat A0)) 99 (ks348 A0) (dropO 0 (opsOf (subC c13.code [1, 1, 1, 0]))) f348 1103 allV allV (objsOf l348) := by kernel_rfl
theorem q349 : isDone (stepsC (tabOf tab) 1000 46105 (g348 0)) = true := by kernel_rfl
theorem q350 : isDone (stepsC (tabOf tab) 1000 41766 (g348 1)) = true := by kernel_rfl
theorem q351 : isDone (stepsC (tabOf tab) 1000 37520 (g348 2)) = true := by kernel_rfl
theorem q352 : isDone (stepsC (tabOf tab) 1000 33367 (g348 3)) = true := by kernel_rfl
theorem q353 : isDone (stepsC (tabOf tab) 1000 29307 (g348 4)) = true := by kernel_rfl
theorem q354 : isDone (stepsC (tabOf tab) 1000 25340 (g348 5)) = true := by kernel_rfl
theorem q355 : isDone (stepsC (tabOf tab) 1000 21466 (g348 6)) = true := by kernel_rfl
theorem q356 : isDone (stepsC (tabOf tab) 1000 17685 (g348 7)) = true := by kernel_rfl
theorem q357 : isDone (stepsC (tabOf tab) 1000 13997 (g348 8)) = true := by kernel_rfl
theorem q358 : isDone (stepsC (tabOf tab) 1000 10402 (g348 9)) = true := by kernel_rfl
theorem q359 : isDone (stepsC (tabOf tab) 1000 6900 (g348 10)) = true := by kernel_rfl
theorem q360 : isDone (stepsC (tabOf tab) 1000 3491 (g348 11)) = true := by kernel_rfl
theorem q361 (X0 : Int) (X1 : Int) : cutE (tabOf tab) 1000 6 (h258 X0 X1 (.ofNat 12)) (idsOf l361) = cutR (tabOf tab) 1000 6 (h258 X0 X1 (.ofNat 12)) 100 ks361 (dropO 0 (opsOf (subC c6.code [1, 1, 0]))) (f361 X0 X1) 0 allV allV (objsOf l361) := by kernel_rfl
theorem q362 (X0 : Int) (X1 : Int) (A0 : Nat) : cutE (tabOf tab) 1000 57950 (h361 X0 X1 (.ofNat A0)) (idsOf l362) = cutR (tabOf tab) 1000 57950 (h361 X0 X1 (.ofNat A0)) 99 (ks362 A0) (dropO 0 (opsOf (subC c13.code [1, 1, 1, 0]))) f362 1163 allV allV (objsOf l362) := by kernel_rfl
theorem q363 : isDone (stepsC (tabOf tab) 1000 46878 (g362 0)) = true := by kernel_rfl
theorem q364 : isDone (stepsC (tabOf tab) 1000 46525 (g362 1)) = true := by kernel_rfl
theorem q365 : isDone (stepsC (tabOf tab) 1000 42151 (g362 2)) = true := by kernel_rfl
theorem q366 : isDone (stepsC (tabOf tab) 1000 37870 (g362 3)) = true := by kernel_rfl
theorem q367 : isDone (stepsC (tabOf tab) 1000 33682 (g362 4)) = true := by kernel_rfl
theorem q368 : isDone (stepsC (tabOf tab) 1000 29587 (g362 5)) = true := by kernel_rfl
theorem q369 : isDone (stepsC (tabOf tab) 1000 25585 (g362 6)) = true := by kernel_rfl
theorem q370 : isDone (stepsC (tabOf tab) 1000 21676 (g362 7)) = true := by kernel_rfl
theorem q371 : isDone (stepsC (tabOf tab) 1000 17860 (g362 8)) = true := by kernel_rfl
theorem q372 : isDone (stepsC (tabOf tab) 1000 14137 (g362 9)) = true := by kernel_rfl
theorem q373 : isDone (stepsC (tabOf tab) 1000 10507 (g362 10)) = true := by kernel_rfl
theorem q374 : isDone (stepsC (tabOf tab) 1000 6970 (g362 11)) = true := by kernel_rfl
theorem q375 : isDone (stepsC (tabOf tab) 1000 3526 (g362 12)) = true := by kernel_rfl
theorem q376 (X0 : Int) (X1 : Int) : cutE (tabOf tab) 1000 6 (h258 X0 X1 (.ofNat 13)) (idsOf l376) = cutR (tabOf tab) 1000 6 (h258 X0 X1 (.ofNat 13)) 100 ks376 (dropO 0 (opsOf (subC c6.code [1, 1, 0]))) (f376 X0 X1) 0 allV allV (objsOf l376) := by kernel_rfl
theorem q377 (X0 : Int) (X1 : Int) (A0 : Nat) : cutE (tabOf tab) 1000 60607 (h376 X0 X1 (.ofNat A0)) (idsOf l377) = cutR (tabOf tab) 1000 60607 (h376 X0 X1 (.ofNat A0)) 99 (ks377 A0) (dropO 0 (opsOf (subC c13.code [1, 1, 1, 0]))) f377 1223 allV allV (objsOf l377) := by kernel_rfl
theorem q378 : isDone (stepsC (tabOf tab) 1000 46878 (g377 0)) = true := by kernel_rfl
theorem q379 : isDone (stepsC (tabOf tab) 1000 47333 (g377 1)) = true := by kernel_rfl
theorem q380 : isDone (stepsC (tabOf tab) 1000 46945 (g377 2)) = true := by kernel_rfl
theorem q381 : isDone (stepsC (tabOf tab) 1000 42536 (g377 3)) = true := by kernel_rfl
end Go.Proofs.Ytocblgajooeehaa.Lit
