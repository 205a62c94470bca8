/-
  A long run, part by part.
-/
import Derived.Test.YtocblgajooeehaaCutD1
namespace Go.Proofs.Ytocblgajooeehaa.Lit
open Go Go.Vabs Go.Vabs.Ph
set_option maxRecDepth 100000
set_option linter.unusedVariables false
theorem q281 : isDone (stepsC (tabOf tab) 1000 9667 (g278 2)) = true := by kernel_rfl
theorem q282 : isDone (stepsC (tabOf tab) 1000 6410 (g278 3)) = true := by kernel_rfl
theorem q283 : isDone (stepsC (tabOf tab) 1000 3246 (g278 4)) = true := by kernel_rfl
theorem q284 (X0 : Int) (X1 : Int) : cutE (tabOf tab) 1000 6 (h258 X0 X1 (.ofNat 5)) (idsOf l284) = cutR (tabOf tab) 1000 6 (h258 X0 X1 (.ofNat 5)) 100 ks284 (dropO 0 (opsOf (subC c6.code [1, 1, 0]))) (f284 X0 X1) 0 allV allV (objsOf l284) := by kernel_rfl
theorem q285 (X0 : Int) (X1 : Int) (A0 : Nat) : cutE (tabOf tab) 1000 39351 (h284 X0 X1 (.ofNat A0)) (idsOf l285) = cutR (tabOf tab) 1000 39351 (h284 X0 X1 (.ofNat A0)) 99 (ks285 A0) (dropO 0 (opsOf (subC c13.code [1, 1, 1, 0]))) f285 743 allV allV (objsOf l285) := by kernel_rfl
theorem q286 : isDone (stepsC (tabOf tab) 1000 20206 (g285 0)) = true := by kernel_rfl
theorem q287 : isDone (stepsC (tabOf tab) 1000 16635 (g285 1)) = true := by kernel_rfl
theorem q288 : isDone (stepsC (tabOf tab) 1000 13157 (g285 2)) = true := by kernel_rfl
theorem q289 : isDone (stepsC (tabOf tab) 1000 9772 (g285 3)) = true := by kernel_rfl
theorem q290 : isDone (stepsC (tabOf tab) 1000 6480 (g285 4)) = true := by kernel_rfl
theorem q291 : isDone (stepsC (tabOf tab) 1000 3281 (g285 5)) = true := by kernel_rfl
theorem q292 (X0 : Int) (X1 : Int) : cutE (tabOf tab) 1000 6 (h258 X0 X1 (.ofNat 6)) (idsOf l292) = cutR (tabOf tab) 1000 6 (h258 X0 X1 (.ofNat 6)) 100 ks292 (dropO 0 (opsOf (subC c6.code [1, 1, 0]))) (f292 X0 X1) 0 allV allV (objsOf l292) := by kernel_rfl
theorem q293 (X0 : Int) (X1 : Int) (A0 : Nat) : cutE (tabOf tab) 1000 42008 (h292 X0 X1 (.ofNat A0)) (idsOf l293) = cutR (tabOf tab) 1000 42008 (h292 X0 X1 (.ofNat A0)) 99 (ks293 A0) (dropO 0 (opsOf (subC c13.code [1, 1, 1, 0]))) f293 803 allV allV (objsOf l293) := by kernel_rfl
theorem q294 : isDone (stepsC (tabOf tab) 1000 24115 (g293 0)) = true := by kernel_rfl
theorem q295 : isDone (stepsC (tabOf tab) 1000 20416 (g293 1)) = true := by kernel_rfl
theorem q296 : isDone (stepsC (tabOf tab) 1000 16810 (g293 2)) = true := by kernel_rfl
theorem q297 : isDone (stepsC (tabOf tab) 1000 13297 (g293 3)) = true := by kernel_rfl
theorem q298 : isDone (stepsC (tabOf tab) 1000 9877 (g293 4)) = true := by kernel_rfl
theorem q299 : isDone (stepsC (tabOf tab) 1000 6550 (g293 5)) = true := by kernel_rfl
theorem q300 : isDone (stepsC (tabOf tab) 1000 3316 (g293 6)) = true := by kernel_rfl
theorem q301 (X0 : Int) (X1 : Int) : cutE (tabOf tab) 1000 6 (h258 X0 X1 (.ofNat 7)) (idsOf l301) = cutR (tabOf tab) 1000 6 (h258 X0 X1 (.ofNat 7)) 100 ks301 (dropO 0 (opsOf (subC c6.code [1, 1, 0]))) (f301 X0 X1) 0 allV allV (objsOf l301) := by kernel_rfl
theorem q302 (X0 : Int) (X1 : Int) (A0 : Nat) : cutE (tabOf tab) 1000 44665 (h301 X0 X1 (.ofNat A0)) (idsOf l302) = cutR (tabOf tab) 1000 44665 (h301 X0 X1 (.ofNat A0)) 99 (ks302 A0) (dropO 0 (opsOf (subC c13.code [1, 1, 1, 0]))) f302 863 allV allV (objsOf l302) := by kernel_rfl
theorem q303 : isDone (stepsC (tabOf tab) 1000 28187 (g302 0)) = true := by kernel_rfl
theorem q304 : isDone (stepsC (tabOf tab) 1000 24360 (g302 1)) = true := by kernel_rfl
theorem q305 : isDone (stepsC (tabOf tab) 1000 20626 (g302 2)) = true := by kernel_rfl
theorem q306 : isDone (stepsC (tabOf tab) 1000 16985 (g302 3)) = true := by kernel_rfl
theorem q307 : isDone (stepsC (tabOf tab) 1000 13437 (g302 4)) = true := by kernel_rfl
theorem q308 : isDone (stepsC (tabOf tab) 1000 9982 (g302 5)) = true := by kernel_rfl
theorem q309 : isDone (stepsC (tabOf tab) 1000 6620 (g302 6)) = true := by kernel_rfl
theorem q310 : isDone (stepsC (tabOf tab) 1000 3351 (g302 7)) = true := by kernel_rfl
theorem q311 (X0 : Int) (X1 : Int) : cutE (tabOf tab) 1000 6 (h258 X0 X1 (.ofNat 8)) (idsOf l311) = cutR (tabOf tab) 1000 6 (h258 X0 X1 (.ofNat 8)) 100 ks311 (dropO 0 (opsOf (subC c6.code [1, 1, 0]))) (f311 X0 X1) 0 allV allV (objsOf l311) := by kernel_rfl
theorem q312 (X0 : Int) (X1 : Int) (A0 : Nat) : cutE (tabOf tab) 1000 47322 (h311 X0 X1 (.ofNat A0)) (idsOf l312) = cutR (tabOf tab) 1000 47322 (h311 X0 X1 (.ofNat A0)) 99 (ks312 A0) (dropO 0 (opsOf (subC c13.code [1, 1, 1, 0]))) f312 923 allV allV (objsOf l312) := by kernel_rfl
theorem q313 : isDone (stepsC (tabOf tab) 1000 32422 (g312 0)) = true := by kernel_rfl
theorem q314 : isDone (stepsC (tabOf tab) 1000 28467 (g312 1)) = true := by kernel_rfl
theorem q315 : isDone (stepsC (tabOf tab) 1000 24605 (g312 2)) = true := by kernel_rfl
theorem q316 : isDone (stepsC (tabOf tab) 1000 20836 (g312 3)) = true := by kernel_rfl
theorem q317 : isDone (stepsC (tabOf tab) 1000 17160 (g312 4)) = true := by kernel_rfl
theorem q318 : isDone (stepsC (tabOf tab) 1000 13577 (g312 5)) = true := by kernel_rfl
theorem q319 : isDone (stepsC (tabOf tab) 1000 10087 (g312 6)) = true := by kernel_rfl
theorem q320 : isDone (stepsC (tabOf tab) 1000 6690 (g312 7)) = true := by kernel_rfl
theorem q321 : isDone (stepsC (tabOf tab) 1000 3386 (g312 8)) = true := by kernel_rfl
theorem q322 (X0 : Int) (X1 : Int) : cutE (tabOf tab) 1000 6 (h258 X0 X1 (.ofNat 9)) (idsOf l322) = cutR (tabOf tab) 1000 6 (h258 X0 X1 (.ofNat 9)) 100 ks322 (dropO 0 (opsOf (subC c6.code [1, 1, 0]))) (f322 X0 X1) 0 allV allV (objsOf l322) := by kernel_rfl
theorem q323 (X0 : Int) (X1 : Int) (A0 : Nat) : cutE (tabOf tab) 1000 49979 (h322 X0 X1 (.ofNat A0)) (idsOf l323) = cutR (tabOf tab) 1000 49979 (h322 X0 X1 (.ofNat A0)) 99 (ks323 A0) (dropO 0 (opsOf (subC c13.code [1, 1, 1, 0]))) f323 983 allV allV (objsOf l323) := by kernel_rfl
theorem q324 : isDone (stepsC (tabOf tab) 1000 36820 (g323 0)) = true := by kernel_rfl
theorem q325 : isDone (stepsC (tabOf tab) 1000 32737 (g323 1)) = true := by kernel_rfl
theorem q326 : isDone (stepsC (tabOf tab) 1000 28747 (g323 2)) = true := by kernel_rfl
theorem q327 : isDone (stepsC (tabOf tab) 1000 24850 (g323 3)) = true := by kernel_rfl
theorem q328 : isDone (stepsC (tabOf tab) 1000 21046 (g323 4)) = true := by kernel_rfl
theorem q329 : isDone (stepsC (tabOf tab) 1000 17335 (g323 5)) = true := by kernel_rfl
theorem q330 : isDone (stepsC (tabOf tab) 1000 13717 (g323 6)) = true := by kernel_rfl
theorem q331 : isDone (stepsC (tabOf tab) 1000 10192 (g323 7)) = true := by kernel_rfl
theorem q332 : isDone (stepsC (tabOf tab) 1000 6760 (g323 8)) = true := by kernel_rfl
theorem q333 : isDone (stepsC (tabOf tab) 1000 3421 (g323 9)) = true := by kernel_rfl
theorem q334 (X0 : Int) (X1 : Int) : cutE (tabOf tab) 1000 6 (h258 X0 X1 (.ofNat 10)) (idsOf l334) = cutR (tabOf tab) 1000 6 (h258 X0 X1 (.ofNat 10)) 100 ks334 (dropO 0 (opsOf (subC c6.code [1, 1, 0]))) (f334 X0 X1) 0 allV allV (objsOf l334) := by kernel_rfl
theorem q335 (X0 : Int) (X1 : Int) (A0 : Nat) : cutE (tabOf tab) 1000 52636 (h334 X0 X1 (.ofNat A0)) (idsOf l335) = cutR (tabOf tab) 1000 52636 (h334 X0 X1 (.ofNat A0)) 99 (ks335 A0) (dropO 0 (opsOf (subC c13.code [1, 1, 1, 0]))) f335 1043 allV allV (objsOf l335) := by kernel_rfl
theorem q336 : isDone (stepsC (tabOf tab) 1000 41381 (g335 0)) = true := by kernel_rfl
theorem q337 : isDone (stepsC (tabOf tab) 1000 37170 (g335 1)) = true := by kernel_rfl
theorem q338 : isDone (stepsC (tabOf tab) 1000 33052 (g335 2)) = true := by kernel_rfl
theorem q339 : isDone (stepsC (tabOf tab) 1000 29027 (g335 3)) = true := by kernel_rfl
end Go.Proofs.Ytocblgajooeehaa.Lit
