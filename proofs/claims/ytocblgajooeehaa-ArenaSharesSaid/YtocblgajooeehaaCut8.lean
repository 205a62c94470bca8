/-
  A long run, part by part.
-/
import Derived.Test.YtocblgajooeehaaCutD2
namespace Go.Proofs.Ytocblgajooeehaa.Lit
open Go Go.Vabs Go.Vabs.Ph
set_option maxRecDepth 100000
set_option linter.unusedVariables false
theorem q82 : cutE (tabOf tab) 1000 116272 g81 (idsOf l82) = cutR (tabOf tab) 1000 116272 g81 86 ks82 (dropO 1 (opsOf (subC c34.code [1, 1, 1, 1, 1, 1, 0, 1, 0, 0, 1, 1, 0, 0, 1, 0]))) f82 3922 allV allV (objsOf l82) := by kernel_rfl
theorem q83 : isDone (stepsC (tabOf tab) 1000 73039 g82) = true := by kernel_rfl
theorem q84 (X0 : Int) : cutE (tabOf tab) 1000 26434 (h1 X0 (.ofNat 16)) (idsOf l84) = cutR (tabOf tab) 1000 26434 (h1 X0 (.ofNat 16)) 99 ks84 (dropO 0 (opsOf (subC c13.code [1, 1, 1, 0]))) f84 477 allV allV (objsOf l84) := by kernel_rfl
theorem q85 : cutE (tabOf tab) 1000 81166 g84 (idsOf l85) = cutR (tabOf tab) 1000 81166 g84 85 ks85 (dropO 1 (opsOf (subC c34.code [1, 1, 1, 1, 1, 1, 0, 1, 0, 0, 1, 1, 0, 0, 1, 0]))) f85 915 allV allV (objsOf l85) := by kernel_rfl
theorem q86 : cutE (tabOf tab) 1000 118288 g85 (idsOf l86) = cutR (tabOf tab) 1000 118288 g85 85 ks86 (dropO 1 (opsOf (subC c34.code [1, 1, 1, 1, 1, 1, 0, 1, 0, 0, 1, 1, 0, 0, 1, 0]))) f86 1512 allV allV (objsOf l86) := by kernel_rfl
theorem q87 : cutE (tabOf tab) 1000 120160 g86 (idsOf l87) = cutR (tabOf tab) 1000 120160 g86 85 ks87 (dropO 1 (opsOf (subC c34.code [1, 1, 1, 1, 1, 1, 0, 1, 0, 0, 1, 1, 0, 0, 1, 0]))) f87 2120 allV allV (objsOf l87) := by kernel_rfl
theorem q88 : cutE (tabOf tab) 1000 118288 g87 (idsOf l88) = cutR (tabOf tab) 1000 118288 g87 85 ks88 (dropO 1 (opsOf (subC c34.code [1, 1, 1, 1, 1, 1, 0, 1, 0, 0, 1, 1, 0, 0, 1, 0]))) f88 2717 allV allV (objsOf l88) := by kernel_rfl
theorem q89 : cutE (tabOf tab) 1000 122000 g88 (idsOf l89) = cutR (tabOf tab) 1000 122000 g88 85 ks89 (dropO 1 (opsOf (subC c34.code [1, 1, 1, 1, 1, 1, 0, 1, 0, 0, 1, 1, 0, 0, 1, 0]))) f89 3336 allV allV (objsOf l89) := by kernel_rfl
theorem q90 : cutE (tabOf tab) 1000 118288 g89 (idsOf l90) = cutR (tabOf tab) 1000 118288 g89 85 ks90 (dropO 1 (opsOf (subC c34.code [1, 1, 1, 1, 1, 1, 0, 1, 0, 0, 1, 1, 0, 0, 1, 0]))) f90 3933 allV allV (objsOf l90) := by kernel_rfl
theorem q91 : isDone (stepsC (tabOf tab) 1000 72573 g90) = true := by kernel_rfl
theorem q92 (X0 : Int) : cutE (tabOf tab) 1000 26457 (h1 X0 (.ofNat 17)) (idsOf l92) = cutR (tabOf tab) 1000 26457 (h1 X0 (.ofNat 17)) 99 ks92 (dropO 0 (opsOf (subC c13.code [1, 1, 1, 0]))) f92 479 allV allV (objsOf l92) := by kernel_rfl
theorem q93 : cutE (tabOf tab) 1000 84012 g92 (idsOf l93) = cutR (tabOf tab) 1000 84012 g92 84 ks93 (dropO 1 (opsOf (subC c34.code [1, 1, 1, 1, 1, 1, 0, 1, 0, 0, 1, 1, 0, 0, 1, 0]))) f93 926 allV allV (objsOf l93) := by kernel_rfl
end Go.Proofs.Ytocblgajooeehaa.Lit
